/- The abstract evaluator: what a Go function of the loaded program does, on values without memory (slices are lists), in continuation style into Prop. The abstract evaluator, second part: regions, code, calls; the least predicate that is closed under a step; it is closed. The few lemmas with which a function is walked. What the evaluator's values and store mean in a world, and that it stays. Soundness of the operations that call no function. Soundness of the operations, second part: one by one. Soundness of the operations, third part: loads, stores, elements. Soundness of the operations, fourth part: owned slices laid open; stores. Soundness of the operations, fifth part: numbers, texts, comparisons, conversions, elements. Soundness of the operations, sixth part: nil and errors, elements, conversions. Soundness of the operations, seventh part: elements and parts. -/
import Derived.Calls
import Derived.Orders
import Derived.Laws.StructEq
import Derived.Laws.Rows
import Derived.Laws.CopyRow
import Derived.Laws.AppendOwn
import Derived.Maps.AppendAt
import Derived.MapKept
import Derived.Laws.Entries
import Derived.Laws.Slices
import Derived.Laws.Append
import Derived.WalkKit
import Derived.Laws.BytesArg
import Derived.Lib.ConvBytes
set_option linter.unusedVariables false
set_option linter.unusedSimpArgs false
namespace Go.Proofs.YtidkmoohgadjkaaGreat.E
open Go
inductive PC where
 | v (x:Value)
 | sl (rows:List (List PC))
inductive C where
 | p (c:PC)
 | own (b:Nat)
 | ptr (b off:Nat)
 | ep (b k i off:Nat)
 | rp (cs:List PC)
 | fn (f:Nat) (caps:List Nat)
 | pf (f:Nat) (caps:List (List PC))
 | mp (b:Nat)
 | cp (rows:List (List PC))
 | junk
inductive Md where
 | op
 | ld
 | mv
inductive A where
 | one (c:C)
 | agg (cs:List C)
 | tup (l:List A)
inductive KK where
 | int (k:IntKind)
 | str
 | ints (k:IntKind) (n:Nat)
inductive Blk where
 | dead
 | box (cs:List C)
 | rows (k:Nat) (l:List (List PC))
 | nest (k o k':Nat) (l:List (List PC))
 | hole (k o k' i:Nat) (l:List (List PC))
 | mp (kk:KK) (va:Bool) (es:List (List PC × List PC))
inductive TD where
 | int (k:IntKind) | bool | str | flt (k:FloatKind) | cplx (k:FloatKind) | ptr (e:Nat) | slice (e:Nat) | arr (n e:Nat) | struct (fs:List (Nat × Nat)) | map (k e:Nat) | iface | other
structure TI where
 d:TD
 sz:Nat
 bytes:Nat
 z:List Value
 eq:Bool
def TI.none:TI:=⟨.other,0,0,[],false⟩
section
variable {α β:Type}
noncomputable def nth (d:α) (l:List α):Nat→α:=@List.rec α (fun _=>Nat→α) (fun _=>d) (fun a _ ih n=>@Nat.rec (fun _=>α) a (fun n _=>ih n) n) l
noncomputable def qeq (l:List α):Nat→List α:=@List.rec α (fun _=>Nat→List α) (fun _=>[]) (fun a l ih n=>@Nat.rec (fun _=>List α) (a::l) (fun n _=>ih n) n) l
noncomputable def qfK (l:List α):Nat→List α:=@List.rec α (fun _=>Nat→List α) (fun _=>[]) (fun a _ ih n=>@Nat.rec (fun _=>List α) [] (fun n _=>a::ih n) n) l
noncomputable def lenR (l:List α):Nat:=@List.rec α (fun _=>Nat) 0 (fun _ _ n=>n + 1) l
noncomputable def mapR (f:α→β) (l:List α):List β:=@List.rec α (fun _=>List β) [] (fun a _ ih=>f a::ih) l
noncomputable def appR (l m:List α):List α:=@List.rec α (fun _=>List α) m (fun a _ ih=>a::ih) l
noncomputable def qjp (l:List (List α)):List α:=@List.rec (List α) (fun _=>List α) [] (fun a _ ih=>appR a ih) l
noncomputable def repR (a:α) (n:Nat):List α:=@Nat.rec (fun _=>List α) [] (fun _ l=>a::l) n
noncomputable def qdF (l:List α):Nat→List α→List α:=@List.rec α (fun _=>Nat→List α→List α) (fun _ _=>[])
 (fun a _ ih n new=>@Nat.rec (fun _=>List α) (@List.rec α (fun _=>List α) (a::ih 0 []) (fun x xs _=>x::ih 0 xs) new) (fun n _=>a::ih n new) n) l
noncomputable def allR (f:α→Bool) (l:List α):Bool:=@List.rec α (fun _=>Bool) true (fun a _ ih=>@Bool.rec (fun _=>Bool) false ih (f a)) l
end
noncomputable def memN (b:Nat) (l:List Nat):Bool:=@List.rec Nat (fun _=>Bool) false (fun a _ ih=>@Bool.rec (fun _=>Bool) ih true (Nat.beq a b)) l
noncomputable def idxN (l:List Nat) (b:Nat):Nat→Option Nat:=@List.rec Nat (fun _=>Nat→Option Nat) (fun _=>none) (fun a _ ih n=>@Bool.rec (fun _=>Option Nat) (ih (n + 1)) (some n) (Nat.beq a b)) l
noncomputable def qw (b:Bool) (x y:Prop):Prop:=@Bool.rec (fun _=>Prop) y x b
def qq2:List Nat:=0::1::2::3::4::5::6::7::8::9::10::11::12::13::14::15::16::17::18::19::20::21::22::23::24::25::26::27::28::29::30::31::32::33::34::35::36::37::38::39::40::[]
noncomputable def natF (n:Nat) (k:Nat→Prop):Prop :=
 @List.rec Nat (fun _=>Nat→Prop) (fun _=>k n) (fun a _ ih m=>@Nat.rec (fun _=>Prop) (k a) (fun m _=>ih m) m) qq2 n
section
variable {α β:Type}
noncomputable def mapF (f:α→(β→Prop)→Prop) (l:List α):(List β→Prop)→Prop :=
 @List.rec α (fun _=>(List β→Prop)→Prop) (fun k=>k []) (fun a _ ih k=>f a fun b=>ih fun l=>k (b::l)) l
noncomputable def appF (l m:List α):(List α→Prop)→Prop :=
 @List.rec α (fun _=>(List α→Prop)→Prop) (fun k=>k m) (fun a _ ih k=>ih fun l=>k (a::l)) l
noncomputable def setF (v:α) (l:List α):Nat→(List α→Prop)→Prop :=
 @List.rec α (fun _=>Nat→(List α→Prop)→Prop) (fun _ k=>k []) (fun a l ih n k=>@Nat.rec (fun _=>Prop) (k (v::l)) (fun n _=>ih n fun l=>k (a::l)) n) l
end
noncomputable def pF (c:PC) (k:PC→Prop):Prop:=match c with | .v x=>k (.v x) | .sl r=>k (.sl r)
noncomputable def cF (c:C) (k:C→Prop):Prop:=match c with
 | .p c=>pF c fun c=>k (.p c)
 | .own b=>natF b fun b=>k (.own b)
 | .ptr b o=>natF b fun b=>natF o fun o=>k (.ptr b o)
 | .ep b n i o=>natF b fun b=>natF o fun o=>k (.ep b n i o)
 | .rp cs=>mapF pF cs fun cs=>k (.rp cs)
 | .fn f l=>mapF natF l fun l=>k (.fn f l)
 | .pf f l=>k (.pf f l)
 | .mp b=>natF b fun b=>k (.mp b)
 | .cp r=>k (.cp r)
 | .junk=>k .junk
noncomputable def aF (a:A) (k:A→Prop):Prop:=match a with
 | .one c=>cF c fun c=>k (.one c)
 | .agg l=>mapF cF l fun l=>k (.agg l)
 | .tup l=>k (.tup l)
noncomputable def bF (b:Blk) (k:Blk→Prop):Prop:=match b with
 | .dead=>k .dead
 | .box l=>mapF cF l fun l=>k (.box l)
 | .rows n l=>k (.rows n l)
 | .nest n o n' l=>k (.nest n o n' l)
 | .hole n o n' i l=>k (.hole n o n' i l)
 | .mp a b es=>k (.mp a b es)
def ltI (a b:Int):Bool:=decide (a < b)
def leI (a b:Int):Bool:=decide (a≤b)
def eqI (a b:Int):Bool:=a == b
def andB (a b:Bool):Bool:=a&&b
def inB (j:Int) (n:Nat):Bool:=decide (0≤j∧j < n)
def inC (j:Int) (n:Nat):Bool:=decide (0≤j∧j≤n)
def wr (k:IntKind) (a:Int):Int:=k.wrap a
def qjq (a b:Int):Int:=a.tdiv b
def qp1 (a b:Int):Int:=a.tmod b
def qni (op:BinOp) (k:IntKind) (x y:Int):Int :=
 let a:=BitVec.ofInt k.bits x
 let b:=BitVec.ofInt k.bits y
 k.wrap (match op with | .and=>(a &&& b).toNat | .or=>(a ||| b).toNat | .xor=>(a ^^^ b).toNat | _=>(a &&& ~~~b).toNat:Nat)
def shlI (k:IntKind) (x y:Int):Int:=k.wrap (x * 2 ^ (min y.toNat k.bits))
def shrI (k:IntKind) (x y:Int):Int:=x.fdiv (2 ^ (min y.toNat k.bits))
def maxI (x y:Int):Int:=if y > x then y else x
def minI (x y:Int):Int:=if y < x then y else x
def eqS (a b:ByteArray):Bool:=a.data.toList == b.data.toList
def ltS (a b:ByteArray):Bool:=Op.bytesLess a.data.toList b.data.toList
theorem qv6 (a b:ByteArray):eqS a b=(a.toList == b.toList):=by rw [ByteArray.toList_eq,ByteArray.toList_eq]; rfl
theorem qyL (a b:ByteArray):ltS a b=Op.bytesLess a.toList b.toList:=by rw [ByteArray.toList_eq,ByteArray.toList_eq]; rfl
def qyM (a b:ByteArray):Bool:=decide (((a.size + b.size:Nat):Int)≤IntKind.i64.max)
def catS (a b:ByteArray):ByteArray:=a++b
def subS (s:ByteArray) (l h:Nat):ByteArray:=s.extract l h
def lenS (s:ByteArray):Int:=s.size
def atS (s:ByteArray) (i:Int):Int:=((s.data.toList.getD i.toNat 0).toNat:Int)
def eqFl (k:FloatKind) (x y:Nat):Bool:=k.format.order x y == some .eq
def ltFl (k:FloatKind) (x y:Nat):Bool:=k.format.order x y == some .lt
def gtFl (k:FloatKind) (x y:Nat):Bool:=k.format.order x y == some .gt
def arOk (op:BinOp) (k:FloatKind) (x y:Nat):Bool:=(match op with | .add=>k.format.add x y | .sub=>k.format.sub x y | .mul=>k.format.mul x y | _=>k.format.div x y).isSome
def arV (op:BinOp) (k:FloatKind) (x y:Nat):Nat:=(match op with | .add=>k.format.add x y | .sub=>k.format.sub x y | .mul=>k.format.mul x y | _=>k.format.div x y).getD 0
def ofI (k:FloatKind) (n:Int):Nat:=k.nearest n
def toIOk (k:FloatKind) (b:Nat) (d:IntKind):Bool:=match (k.decode b).toInt .zero with | some n=>decide (d.min≤n∧n≤d.max) | none=>false
def toIV (k:FloatKind) (b:Nat):Int:=((k.decode b).toInt .zero).getD 0
def lenL (l:List (List PC)):Int:=(l.length:Int)
def lenB (l:List (List PC)) (j:Int):Bool:=decide (0≤j∧j < (l.length:Int))
def lenC (l:List (List PC)) (j:Int):Bool:=decide (0≤j∧j≤(l.length:Int))
def rowAt (l:List (List PC)) (j:Int):List PC:=l.getD j.toNat []
def qbF (l:List (List PC)) (a b:Int):List (List PC):=(l.take b.toNat).drop a.toNat
def catL (l m:List (List PC)):List (List PC):=l++m
def setRow (l:List (List PC)) (j:Nat) (r:List PC):List (List PC):=l.set j r
def qoq (r:List PC) (n:Int):List (List PC):=List.replicate n.toNat r
def qau (l m:List (List PC)) (bytes:Nat):Bool:=decide ((l.length + m.length) * bytes≤140737488355328∧(l.length + m.length)≤140737488355328)
noncomputable def bEq (a b:Bool):Bool:=@Bool.rec (fun _=>Bool) (!b) b a
def qyN (n:Int) (bytes:Nat):Bool:=decide (0≤n∧n * bytes≤140737488355328∧n≤140737488355328)
def qdG (s:ByteArray):List (List PC):=s.data.toList.map fun b=>[.v (.int .u8 b.toNat)]
def qor:List PC→Option UInt8
 | [.v (.int .u8 n)]=>some (UInt8.ofNat n.toNat)
 | _=>none
def qw9 (l:List (List PC)):Bool:=l.all fun r=>(qor r).isSome
def qp2 (l:List (List PC)):ByteArray:=⟨(l.map fun r=>(qor r).getD 0).toArray⟩
def qae (l:List (List PC)) (k:Nat):Bool:=l.all fun r=>r.length == k
def isAgg:TD→Bool
 | .struct _=>true
 | .arr .. => true
 | _=>false
noncomputable def A.cells:A→List C
 | .one c=>[c]
 | .agg cs=>cs
 | .tup _=>[]
noncomputable def qhC (a:A) (K:List C→Prop):Prop:=match a with
 | .one .junk=>False
 | .one c=>K [c]
 | .agg cs=>K cs
 | .tup _=>False
noncomputable def look (σ:List Blk) (b:Nat):Blk:=nth .dead σ b
def flat:Value→Bool
 | .bool _=>true
 | .int _ _=>true
 | .float _ _=>true
 | .complex _ _ _=>true
 | .string _=>true
 | .pointer none=>true
 | .slice none 0 0=>true
 | .map none=>true
 | .nilFunc=>true
 | .nilIface=>true
 | .iface _ (.int _ _)=>true
 | _=>false
noncomputable def qjr (v:Value):C:=@Bool.rec (fun _=>C) .junk (.p (.v v)) (flat v)
noncomputable def qq3 (v:Value):A:=match v with
 | .agg cs=>@Bool.rec (fun _=>A) (.one .junk) (.agg (mapR qjr cs.toList)) (allR flat cs.toList)
 | v=>.one (qjr v)
noncomputable def opd (t:List A):Operand→A
 | .tmp n=>nth (.one .junk) t n
 | .const v=>qq3 v
 | .global _=>.one .junk
 | .func f=>.one (.fn f [])
abbrev Kont:=A→List (Nat × Blk)→List Blk→List Nat→Prop
noncomputable def ncF (cs:List C):Nat→(List C→List Blk→Prop)→Prop :=
 @List.rec C (fun _=>Nat→(List C→List Blk→Prop)→Prop) (fun _ k=>k [] [])
  (fun c _ ih nx k=>match c with
   | .p (.v (.slice none 0 0))=>ih (nx + 1) fun cs nw=>natF nx fun n=>k (.own n::cs) (.rows 0 []::nw)
   | c=>ih nx fun cs nw=>k (c::cs) nw) cs
noncomputable def ncS (agg:Bool) (cs:List C) (nx:Nat) (k:List C→List Blk→Prop):Prop:=match agg with
 | true=>k cs []
 | false=>ncF cs nx k
def qv7:A→Bool
 | .agg _=>true
 | _=>false
noncomputable def qly (σ:List Blk) (c:C) (K:List (List PC)→List Nat→Prop):Prop:=match c with
 | .p (.sl r)=>K r []
 | .p (.v (.slice none 0 0))=>K [] []
 | .own b=>match look σ b with
  | .rows _ l=>K l [b]
  | .nest _ _ _ l=>K l [b]
  | _=>False
 | _=>False
def eqv {α:Type} (a:α) (k:α→Prop):Prop:=∀ r,r=a→k r
inductive Two (a b:Prop):Prop
 | l:a→Two a b
 | r:b→Two a b
noncomputable def nzF (c:PC) (k:PC→Prop):Prop:=match c with
 | .v (.slice none 0 0)=>k (.sl [])
 | .v x=>k (.v x)
 | .sl r=>k (.sl r)
noncomputable def nzC (c:C) (k:C→Prop):Prop:=match c with
 | .p c=>nzF c fun c=>k (.p c)
 | c=>k c
noncomputable def nzA1 (a:A) (k:A→Prop):Prop:=match a with
 | .one c=>nzC c fun c=>k (.one c)
 | .agg l=>mapF nzC l fun l=>k (.agg l)
 | .tup l=>k (.tup l)
noncomputable def nzA (a:A) (k:A→Prop):Prop:=match a with
 | .one c=>nzC c fun c=>k (.one c)
 | .agg l=>mapF nzC l fun l=>k (.agg l)
 | .tup l=>mapF nzA1 l fun l=>k (.tup l)
noncomputable def toP (σ:List Blk) (c:C) (K:PC→List Nat→Prop):Prop:=match c with
 | .p c=>nzF c fun c=>K c []
 | .own b=>match look σ b with
  | .rows _ l=>K (.sl l) [b]
  | .nest _ _ _ l=>K (.sl l) [b]
  | _=>False
 | _=>False
noncomputable def toPs (σ:List Blk) (cs:List C):(List PC→List Nat→Prop)→Prop :=
 @List.rec C (fun _=>(List PC→List Nat→Prop)→Prop) (fun k=>k [] []) (fun c _ ih k=>toP σ c fun c bs=>ih fun cs bs'=>k (c::cs) (appR bs bs')) cs
noncomputable def qq4 (op:BinOp) (k:IntKind) (a b:Int) (K:Value→Prop):Prop :=
 match op with
 | .add=>K (.int k (wr k (a + b)))
 | .sub=>K (.int k (wr k (a - b)))
 | .mul=>K (.int k (wr k (a * b)))
 | .quo=>qw (eqI b 0) False (K (.int k (wr k (qjq a b))))
 | .rem=>qw (eqI b 0) False (K (.int k (qp1 a b)))
 | .and=>K (.int k (qni .and k a b))
 | .or=>K (.int k (qni .or k a b))
 | .xor=>K (.int k (qni .xor k a b))
 | .andNot=>K (.int k (qni .andNot k a b))
 | .eql=>K (.bool (eqI a b))
 | .neq=>K (.bool (!eqI a b))
 | .lss=>K (.bool (ltI a b))
 | .leq=>K (.bool (leI a b))
 | .gtr=>K (.bool (ltI b a))
 | .geq=>K (.bool (leI b a))
 | _=>False
noncomputable def qq5 (op:BinOp) (a b:ByteArray) (K:Value→Prop):Prop :=
 match op with
 | .add=>qw (qyM a b) (K (.string (catS a b))) False
 | .eql=>K (.bool (eqS a b))
 | .neq=>K (.bool (!eqS a b))
 | .lss=>K (.bool (ltS a b))
 | .leq=>K (.bool (ltS a b || eqS a b))
 | .gtr=>K (.bool (!(ltS a b || eqS a b)))
 | .geq=>K (.bool (!ltS a b))
 | _=>False
noncomputable def qq6 (op:BinOp) (k:FloatKind) (a b:Nat) (K:Value→Prop):Prop :=
 match op with
 | .add=>qw (arOk .add k a b) (K (.float k (arV .add k a b))) False
 | .sub=>qw (arOk .sub k a b) (K (.float k (arV .sub k a b))) False
 | .mul=>qw (arOk .mul k a b) (K (.float k (arV .mul k a b))) False
 | .eql=>K (.bool (eqFl k a b))
 | .neq=>K (.bool (!eqFl k a b))
 | .lss=>K (.bool (ltFl k a b))
 | .leq=>K (.bool (ltFl k a b || eqFl k a b))
 | .gtr=>K (.bool (gtFl k a b))
 | .geq=>K (.bool (gtFl k a b || eqFl k a b))
 | _=>False
noncomputable def qq7 (op:BinOp) (k:FloatKind) (a b c d:Nat) (K:Value→Prop):Prop :=
 match op with
 | .add=>qw (arOk .add k a c&&arOk .add k b d) (K (.complex k (arV .add k a c) (arV .add k b d))) False
 | .sub=>qw (arOk .sub k a c&&arOk .sub k b d) (K (.complex k (arV .sub k a c) (arV .sub k b d))) False
 | .eql=>K (.bool (eqFl k a c&&eqFl k b d))
 | .neq=>K (.bool (!(eqFl k a c&&eqFl k b d)))
 | _=>False
noncomputable def qos (z:Value) (x y:C) (K:Bool→Prop):Prop:=match z,x,y with
 | .int k _,.p (.v (.int k1 a)),.p (.v (.int k2 b))=>qw (decide (k=k1)&&decide (k=k2)) (K (eqI a b)) False
 | .string _,.p (.v (.string a)),.p (.v (.string b))=>K (eqS a b)
 | .bool _,.p (.v (.bool a)),.p (.v (.bool b))=>K (@Bool.rec (fun _=>Bool) (!b) b a)
 | .complex k _ _,.p (.v (.complex k1 a b)),.p (.v (.complex k2 c d))=>qw (decide (k=k1)&&decide (k=k2)) (K (eqFl k a c&&eqFl k b d)) False
 | _,_,_=>False
noncomputable def qkg (zs:List Value):List C→List C→(Bool→Prop)→Prop :=
 @List.rec Value (fun _=>List C→List C→(Bool→Prop)→Prop) (fun xs ys k=>match xs,ys with | [],[]=>k true | _,_=>False)
  (fun z zs ih xs ys k=>match xs,ys with
   | x::xs,y::ys=>qos z x y fun b=>ih xs ys fun c=>k (andB b c)
   | _,_=>False) zs
variable (T:List TI)
noncomputable def ty (t:Nat):TI:=nth TI.none T t
noncomputable def qgT (t:Nat) (i:Nat):Option (Nat × Nat):=match (ty T t).d with
 | .struct fs=>match qeq fs i with
  | (o,f)::_=>some (o,(ty T f).sz)
  | []=>none
 | .arr n e=>some (i * (ty T e).sz,(ty T e).sz)
 | _=>none
def qin:TD→Bool
 | .other=>false
 | _=>true
noncomputable def qv8 (t:Nat):Bool:=match (ty T t).d with
 | .struct fs=>allR (fun (f:Nat × Nat)=>qin (ty T f.2).d) fs
 | .arr _ e=>qin (ty T e).d
 | _=>false
noncomputable def qut (at_:Nat→Option (Nat × Nat)) (ps:List (Nat × A)):List C→(List C→Prop)→Prop :=
 @List.rec (Nat × A) (fun _=>List C→(List C→Prop)→Prop) (fun cs k=>k cs)
  (fun p _ ih cs k=>match at_ p.1 with
   | some (o,n)=>qhC p.2 fun pc=>qw (Nat.beq (lenR pc) n&&Nat.ble (o + n) (lenR cs)) (ih (qdF cs o pc) k) False
   | none=>False) ps
noncomputable def qkh (t:Nat):List C:=mapR (fun x=>C.p (.v x)) (ty T t).z
noncomputable def qp3 (k:Nat) (n:Nat):List PC→List (List PC):=@Nat.rec (fun _=>List PC→List (List PC)) (fun _=>[]) (fun _ ih cs=>qfK cs k::ih (qeq cs k)) n
noncomputable def cellsOf (c:Bool) (cs:List C) (K:A→Prop):Prop:=@Bool.rec (fun _=>Prop) (match cs with | [c]=>K (.one c) | _=>False) (K (.agg cs)) c
noncomputable def qlz (σ:List Blk) (t:Nat) (a:A) (K:Kont):Prop :=
 match a with
 | .one (.ptr b o)=>match look σ b with
  | .box cs=>qw (Nat.ble (o + (ty T t).sz) (lenR cs)) (cellsOf (isAgg (ty T t).d) (qfK (qeq cs o) (ty T t).sz) fun v=>K v [] [] [b]) False
  | _=>False
 | .one (.rp cs)=>qw (Nat.ble (ty T t).sz (lenR cs)) (cellsOf (isAgg (ty T t).d) (mapR C.p (qfK cs (ty T t).sz)) fun v=>K v [] [] []) False
 | .one (.ep b k i o)=>match look σ b with
  | .rows k' l=>qw (lenB l i&&Nat.beq k k')
    (mapF pF (rowAt l i) fun r=>qw (Nat.ble (o + (ty T t).sz) (lenR r)) (cellsOf (isAgg (ty T t).d) (mapR C.p (qfK (qeq r o) (ty T t).sz)) fun v=>K v [] [] [b]) False) False
  | .nest k' p k2 l=>qw (lenB l i&&Nat.beq k k')
    (mapF pF (rowAt l i) fun r=>qw (Nat.ble (o + (ty T t).sz) (lenR r)&&(Nat.ble (p + 1) o || Nat.ble (o + (ty T t).sz) p)) (cellsOf (isAgg (ty T t).d) (mapR C.p (qfK (qeq r o) (ty T t).sz)) fun v=>K v [] [] [b]) False) False
  | _=>False
 | _=>False
noncomputable def qnj (σ:List Blk) (nx b k i o:Nat) (K:Kont):Prop:=match look σ b with
 | .nest k' p k2 l=>qw (lenB l i&&Nat.beq k k'&&Nat.beq o p)
   (mapF pF (rowAt l i) fun r=>match qeq r p with
    | .sl m::_=>K (.one (.own nx)) [(b,.hole k' p k2 i l)] [.rows k2 m] [b]
    | _=>False) False
 | _=>False
noncomputable def qxa (σ:List Blk) (b k i o c:Nat) (K:Kont):Prop:=match look σ b with
 | .hole k' p k2 i' l=>qw (lenB l i&&Nat.beq k k'&&Nat.beq o p&&Nat.beq i i')
   (match look σ c with
    | .rows k3 m=>qw (Nat.beq k3 k2 || Nat.beq k3 0) (mapF pF (rowAt l i) fun r=>eqv (setRow l i (qdF r p [.sl m])) fun l'=>K (.tup []) [(b,.nest k' p k2 l'),(c,.dead)] [] [c]) False
    | _=>False) False
 | _=>False
noncomputable def outB (σ:List Blk) (one:Bool) (b o:Nat) (y n:Prop):Prop:=match look σ b with
 | .nest _ p _ _=>qw (one&&Nat.beq o p) y n
 | .hole _ p _ _ _=>qw (one&&Nat.beq o p) y n
 | _=>n
def qp4:TD→Bool
 | .slice _=>true
 | _=>false
noncomputable def qot (σ:List Blk) (nx:Nat) (t:Nat) (a v:A) (K:Kont):Prop :=
  qhC v fun vc=>qw (Nat.beq (lenR vc) (ty T t).sz&&Nat.ble 1 (ty T t).sz)
   (match a with
    | .one (.ptr b o)=>match look σ b with
      | .box cs=>qw (Nat.ble (o + (ty T t).sz) (lenR cs)) (ncS (qv7 v) vc nx fun vs nw=>K (.tup []) [(b,.box (qdF cs o vs))] nw []) False
      | _=>False
    | .one (.ep b k i o)=>match look σ b with
      | .rows k' l=>qw (lenB l i&&Nat.beq k k')
          (toPs σ vc fun ps bs=>match bs with
            | []=>mapF pF (rowAt l i) fun r=>qw (Nat.ble (o + (ty T t).sz) (lenR r)) (eqv (setRow l i (qdF r o ps)) fun l'=>K (.tup []) [(b,.rows k' l')] [] []) False
            | _=>False) False
      | _=>False
    | _=>False) False
noncomputable def binC (op:BinOp) (s:TI) (x y:A) (K:A→Prop):Prop :=
  match x,y with
  | .one (.p (.v (.int k a))),.one (.p (.v (.int k' b))) =>
    (match op with
     | .shl=>qw (ltI b 0) False (K (.one (.p (.v (.int k (shlI k a b))))))
     | .shr=>qw (ltI b 0) False (K (.one (.p (.v (.int k (shrI k a b))))))
     | op=>qw (decide (k=k')) (qq4 op k a b fun v=>K (.one (.p (.v v)))) False)
  | .one (.p (.v (.bool a))),.one (.p (.v (.bool b))) =>
    (match op,s.d with
     | .eql,.bool=>K (.one (.p (.v (.bool (@Bool.rec (fun _=>Bool) (!b) b a)))))
     | .neq,.bool=>K (.one (.p (.v (.bool (@Bool.rec (fun _=>Bool) b (!b) a)))))
     | _,_=>False)
  | .one (.p (.v (.string a))),.one (.p (.v (.string b)))=>qq5 op a b fun v=>K (.one (.p (.v v)))
  | .one (.p (.v (.float k a))),.one (.p (.v (.float k' b)))=>qw (decide (k=k')) (qq6 op k a b fun v=>K (.one (.p (.v v)))) False
  | .one (.p (.v (.complex k a b))),.one (.p (.v (.complex k' c d)))=>qw (decide (k=k')) (qq7 op k a b c d fun v=>K (.one (.p (.v v)))) False
  | .agg xs,.agg ys =>
    (match op with
     | .eql=>qw s.eq (qkg s.z xs ys fun b=>K (.one (.p (.v (.bool b))))) False
     | .neq=>qw s.eq (qkg s.z xs ys fun b=>K (.one (.p (.v (.bool (!b)))))) False
     | _=>False)
  | _,_=>False
def qer:Operand→Bool
 | .const _=>true
 | _=>false
noncomputable def nilC (σ:List Blk) (s:TI) (cst:Bool) (x y:A) (K:Bool→List Nat→Prop):Prop :=
 match s.d,x,y with
 | .ptr _,.one (.p (.v (.pointer none))),.one (.p (.v (.pointer none)))=>K true []
 | .ptr _,.one (.ptr b _),.one (.p (.v (.pointer none)))=>match look σ b with
  | .box _=>K false [b]
  | _=>False
 | .iface,.one (.p (.v (.iface a (.int k m)))),.one (.p (.v (.iface b (.int k' n))))=>qw (Nat.beq a b) (qw (decide (k=k')) (match (ty T a).d with
  | .int _=>K (eqI m n) []
  | _=>False) False) (K false [])
 | .iface,.one (.p (.v (.iface _ _))),.one (.p (.v .nilIface))=>K false []
 | .iface,.one (.p (.v .nilIface)),.one (.p (.v (.iface _ _)))=>K false []
 | .iface,.one (.p (.v .nilIface)),.one (.p (.v .nilIface))=>qw cst (K true []) False
 | _,_,_=>False
noncomputable def qxb (c:C) (K:List (List PC)→Prop):Prop:=match c with
 | .p (.sl r)=>K r
 | .p (.v (.slice none 0 0))=>K []
 | _=>False
noncomputable def qq8 (σ : List Blk) (nx : Nat) (e : Nat) (x : C) (lo hi : Option Int) (mx : Option Int) (K : Kont) : Prop :=
  qw (Nat.ble 1 (ty T e).sz) (match x, lo, hi, mx with
  | .own b, none, some h, none => match look σ b with
    | .rows k l => qw (lenC l h && (Nat.beq k (ty T e).sz || Nat.beq k 0)) (eqv (qbF l 0 h) fun l' => K (.one (.own nx)) [(b, .dead)] [.rows k l'] [b]) False
    | _ => False
  | x, lo, hi, mx => qxb x fun l =>
      qw (lenC l (hi.getD (lenL l)) && leI 0 (lo.getD 0) && leI (lo.getD 0) (hi.getD (lenL l)) && qae l (ty T e).sz)
        (match mx with
         | none => eqv (qbF l (lo.getD 0) (hi.getD (lenL l))) fun l' => K (.one (.p (.sl l'))) [] [] []
         | some m => qw (eqI m (hi.getD (lenL l)) && hi.isSome) (qw (eqI (lo.getD 0) (hi.getD (lenL l)))
              (K (.one (.own nx)) [] [.rows 0 []] [])
              (eqv (qbF l (lo.getD 0) (hi.getD (lenL l))) fun l' => Two (K (.one (.p (.sl l'))) [] [] []) (K (.one (.cp l')) [] [] []))) False) False) False
noncomputable def valI (t:List A):Option Operand→(Option Int→Prop)→Prop
 | none,K=>K none
 | some x,K=>match opd t x with
  | .one (.p (.v (.int _ n)))=>K (some n)
  | _=>False
noncomputable def qgE (σ : List Blk) (nx : Nat) (e : Nat) (s : C) (news : List (List PC)) (rd : List Nat) (K : Kont) : Prop :=
  match s with
  | .own b => match look σ b with
    | .rows k l => qw (qau l news (ty T e).bytes && qae news (ty T e).sz && (Nat.beq k (ty T e).sz || Nat.beq k 0))
        (qw (Nat.ble 1 (ty T e).sz) (eqv (catL l news) fun l' => K (.one (.own nx)) [(b, .dead)] [.rows (ty T e).sz l'] (b :: rd)) False) False
    | _ => False
  | .p (.v (.slice none 0 0)) => qw (qau [] news (ty T e).bytes && qae news (ty T e).sz)
        (qw (Nat.ble 1 (ty T e).sz) (eqv (catL [] news) fun l' => K (.one (.own nx)) [] [.rows (ty T e).sz l'] rd) False) False
  | .cp l => qw (qau l news (ty T e).bytes && qae news (ty T e).sz && qae l (ty T e).sz)
        (qw (Nat.ble 1 (ty T e).sz) (eqv (catL l news) fun l' => K (.one (.p (.sl l'))) [] [] rd) False) False
  | _ => False
noncomputable def qki (σ:List Blk) (nx:Nat) (e:Nat) (s:C) (bx k o k':Nat) (news:List (List PC)) (K:Kont):Prop :=
 match s with
 | .own b=>match look σ b with
  | .nest k1 o1 k1' l=>qw (qau l news (ty T e).bytes&&Nat.beq k1 k&&Nat.beq o1 o&&Nat.beq k1' k'&&Nat.beq k (ty T e).sz&&!Nat.beq b bx)
    (eqv (catL l news) fun l'=>K (.one (.own nx)) [(b,.dead),(bx,.dead)] [.nest k o k' l'] [b,bx]) False
  | .rows k0 []=>qw (qau [] news (ty T e).bytes&&Nat.beq k (ty T e).sz&&!Nat.beq b bx&&Nat.ble 1 (lenR news)&&(Nat.beq k0 (ty T e).sz || Nat.beq k0 0)) (K (.one (.own nx)) [(b,.dead),(bx,.dead)] [.nest k o k' news] [b,bx]) False
  | _=>False
 | .p (.v (.slice none 0 0))=>qw (qau [] news (ty T e).bytes&&Nat.beq k (ty T e).sz&&Nat.ble 1 (lenR news)) (K (.one (.own nx)) [(bx,.dead)] [.nest k o k' news] [bx]) False
 | _=>False
noncomputable def qyO (fs:List (Nat × Nat)):List (Nat × Nat):=@List.rec (Nat × Nat) (fun _=>List (Nat × Nat)) [] (fun f _ ih=>match (ty T f.2).d with
 | .slice e=>(f.1,(ty T e).sz)::ih
 | _=>ih) fs
noncomputable def qxc (e:Nat):Option (Nat × Nat):=match (ty T e).d with
 | .struct fs=>match qyO T fs with
  | [x]=>some x
  | _=>none
 | _=>none
noncomputable def qyP (σ:List Blk) (x:C) (y:Nat→Nat→Nat→Nat→List (List PC)→Prop) (n:Prop):Prop:=match x with
 | .own b=>match look σ b with
  | .nest k o k' l=>y b k o k' l
  | _=>n
 | _=>n
noncomputable def qou (f:Int→Int→Int) (xs:List A) (K:A→Prop):Prop:=match xs with
 | [.one (.p (.v (.int k a))),.one (.p (.v (.int k' b)))]=>qw (decide (k=k')) (K (.one (.p (.v (.int k (f a b)))))) False
 | _=>False
noncomputable def qkj (σ:List Blk) (nx:Nat) (b:Builtin) (ts:List Nat) (xs:List A) (K:Kont):Prop :=
 match b,ts,xs with
 | .len,t::_,[.one c]=>match (ty T t).d,c with
  | .str,.p (.v (.string s))=>K (.one (.p (.v (.int .i64 (lenS s))))) [] [] []
  | .slice _,c=>qly σ c fun l bs=>eqv (lenL l) fun n=>K (.one (.p (.v (.int .i64 n)))) [] [] bs
  | _,_=>False
 | .len,t::_,_::_=>match (ty T t).d with
  | .arr n _=>K (.one (.p (.v (.int .i64 n)))) [] [] []
  | _=>False
 | .cap,t::_,[.one c]=>match (ty T t).d,c with
  | .slice _,.p (.v (.slice none 0 0))=>K (.one (.p (.v (.int .i64 0)))) [] [] []
  | .slice _,.own b=>match look σ b with
   | .rows 0 []=>K (.one (.p (.v (.int .i64 0)))) [] [] [b]
   | _=>False
  | _,_=>False
 | .append,[t,t'],[.one s,.one x]=>match (ty T t).d,(ty T t').d with
  | .slice e,.slice e'=>qw (Nat.beq e e') (qyP σ x (fun bx k o k' l=>qki T σ nx e s bx k o k' l K) (qly σ x fun l bs=>qgE T σ nx e s l bs K)) False
  | .slice e,.str=>match x with
   | .p (.v (.string u))=>qgE T σ nx e s (qdG u) [] K
   | _=>False
  | _,_=>False
 | .max,_,xs=>qou maxI xs fun v=>K v [] [] []
 | .min,_,xs=>qou minI xs fun v=>K v [] [] []
 | .real,_,[.one (.p (.v (.complex k a _)))]=>K (.one (.p (.v (.float k a)))) [] [] []
 | .imag,_,[.one (.p (.v (.complex k _ b)))]=>K (.one (.p (.v (.float k b)))) [] [] []
 | .complex,_,[.one (.p (.v (.float k a))),.one (.p (.v (.float k' b)))]=>qw (decide (k=k')) (K (.one (.p (.v (.complex k a b)))) [] [] []) False
 | _,_,_=>False
noncomputable def qyQ (σ:List Blk) (nx:Nat) (same:Bool) (src dst:TI) (x:A) (K:Kont):Prop :=
 qw (qin src.d) (match dst.d,src.d,x with
 | .int k,_,.one (.p (.v (.int _ n)))=>K (.one (.p (.v (.int k (wr k n))))) [] [] []
 | .flt k,_,.one (.p (.v (.int _ n)))=>K (.one (.p (.v (.float k (ofI k n))))) [] [] []
 | .int k,_,.one (.p (.v (.float s b)))=>qw (toIOk s b k) (K (.one (.p (.v (.int k (toIV s b))))) [] [] []) False
 | .str,.str,.one (.p (.v (.string s)))=>K (.one (.p (.v (.string s)))) [] [] []
 | .slice e,.str,.one (.p (.v (.string s)))=>match (ty T e).d with
  | .int .u8=>K (.one (.p (.sl (qdG s)))) [] [] []
  | _=>False
 | .slice e,.slice _,.one (.own b)=>match (ty T e).d with
  | .int .u8=>match look σ b with
   | .rows _ l=>qw same (qw (lenB l 0) (K (.one (.p (.sl l))) [(b,.dead)] [] [b]) False) False
   | _=>False
  | _=>False
 | .str,.slice e,.one c=>match (ty T e).d with
  | .int .u8=>qly σ c fun l bs=>qw (qw9 l) (K (.one (.p (.v (.string (qp2 l))))) [] [] bs) False
  | _=>False
 | _,_,_=>False) False
noncomputable def qxd (σ:List Blk) (e n:Nat) (cs:List C) (y:Nat→Nat→List PC→Prop) (m:Prop):Prop:=match qxc T e,n with
 | some (o,k'),1=>match qeq cs o with
  | .p (.v (.slice none 0 0))::_=>Two m (toPs σ cs fun ps bs=>match bs with
   | []=>qw (Nat.beq (lenR ps) (ty T e).sz&&Nat.ble (o + 1) (ty T e).sz&&Nat.ble (ty T e).sz 1000) (y o k' ps) False
   | _=>False)
  | _=>m
 | _,_=>m
def pcEq:PC→PC→Bool
 | .v (.int k a),.v (.int k' b)=>decide (k=k')&&a == b
 | .v (.string a),.v (.string b)=>eqS a b
 | _,_=>false
def qdH:List PC→List PC→Bool
 | [],[]=>true
 | a::l,b::m=>pcEq a b&&qdH l m
 | _,_=>false
def getM (es:List (List PC × List PC)) (k:List PC):Option (List PC):=(es.find? fun e=>qdH e.1 k).map (·.2)
def setM (es:List (List PC × List PC)) (k v:List PC):List (List PC × List PC):=if (getM es k).isSome then es.map fun e=>if qdH e.1 k then (e.1,v) else e else es++[(k,v)]
noncomputable def kkOf (t:Nat):Option KK:=match (ty T t).d with
 | .int k=>some (.int k)
 | .str=>some .str
 | .arr n e=>match (ty T e).d with
  | .int k=>some (.ints k n)
  | _=>none
 | _=>none
def kkEq (a b:KK):Bool:=match a,b with
 | .int k,.int k'=>decide (k=k')
 | .str,.str=>true
 | .ints k n,.ints k' n'=>decide (k=k')&&Nat.beq n n'
 | _,_=>false
noncomputable def qyR (k:IntKind) (z:List Value):Bool:=allR (fun v=>match v with
 | .int k' _=>decide (k=k')
 | _=>false) z
noncomputable def qkk (k:IntKind) (cs:List C):(List PC→Prop)→Prop :=
 @List.rec C (fun _=>(List PC→Prop)→Prop) (fun K=>K [])
  (fun c _ ih K=>match c with
   | .p (.v (.int k' a))=>qw (decide (k=k')) (ih fun l=>K (.v (.int k' a)::l)) False
   | _=>False) cs
noncomputable def keyF (t:Nat) (a:A) (K:KK→List PC→Prop):Prop:=match kkOf T t,a with
 | some (.int k),.one (.p (.v (.int k' n)))=>qw (decide (k=k')) (K (.int k) [.v (.int k' n)]) False
 | some .str,.one (.p (.v (.string s)))=>K .str [.v (.string s)]
 | some (.ints k n),.agg cs=>qw ((ty T t).eq&&Nat.beq n (lenR cs)&&Nat.beq n (lenR (ty T t).z)&&Nat.beq n (ty T t).sz&&qyR k (ty T t).z) (qkk k cs fun l=>K (.ints k n) l) False
 | _,_=>False
noncomputable def qov (ok:Bool) (v:A) (b:Bool) (K:A→Prop):Prop:=match ok with
 | false=>K v
 | true=>match v with
  | .tup _=>False
  | v=>K (.tup [v,.one (.p (.v (.bool b)))])
noncomputable def qnk (σ:List Blk) (s:Nat) (m i:A) (ok:Bool) (K:Kont):Prop:=match (ty T s).d,m with
 | .map kt et,.one (.mp b)=>match look σ b with
  | .mp kk va es=>keyF T kt i fun kk' kc=>qw (kkEq kk kk'&&bEq va (isAgg (ty T et).d)&&Nat.ble 1 (ty T et).sz) (eqv (getM es kc) fun o=>match o with
   | some r=>mapF pF r fun r=>qw (Nat.beq (lenR r) (ty T et).sz) (cellsOf (isAgg (ty T et).d) (mapR C.p r) fun v=>qov ok v true fun a=>K a [] [] [b]) False
   | none=>cellsOf (isAgg (ty T et).d) (qkh T et) fun v=>qov ok v false fun a=>K a [] [] [b]) False
  | _=>False
 | _,_=>False
noncomputable def qhh (σ:List Blk) (s:Nat) (m i v:A) (K:Kont):Prop:=match (ty T s).d,m with
 | .map kt et,.one (.mp b)=>match look σ b with
  | .mp kk va es=>keyF T kt i fun kk' kc=>qhC v fun vc=>qw (kkEq kk kk'&&bEq va (qv7 v)&&Nat.beq (lenR vc) (ty T et).sz) (toPs σ vc fun ps bs=>match bs with
    | []=>eqv (setM es kc ps) fun es'=>K (.tup []) [(b,.mp kk va es')] [] []
    | _=>False) False
  | _=>False
 | _,_=>False
noncomputable def qq9 (l:List A):(List Nat→Prop)→Prop :=
 @List.rec A (fun _=>(List Nat→Prop)→Prop) (fun k=>k []) (fun a _ ih k=>match a with
  | .one (.ptr b 0)=>ih fun bs=>k (b::bs)
  | _=>False) l
noncomputable def qaJ (t:List A) (σ:List Blk) (nx:Nat) (op:Op) (K:Kont):Prop :=
 match op with
 | .move x | .assign x=>match qer x,opd t x with
  | true,.one (.p (.v (.slice none 0 0)))=>K (.one (.own nx)) [] [.rows 0 []] []
  | _,a=>K a [] [] []
 | .pick c x y=>match opd t c with
  | .one (.p (.v (.bool b)))=>qw b (K (opd t x) [] [] []) (K (opd t y) [] [] [])
  | _=>False
 | .alloc e=>qw (Nat.ble 1 (ty T e).sz) (ncF (qkh T e) (nx + 1) fun cs nw=>K (.one (.ptr nx 0)) [] (.box cs::nw) []) False
 | .box _ x=>qhC (opd t x) fun vc=>ncF vc (nx + 1) fun cs nw=>K (.one (.ptr nx 0)) [] (.box cs::nw) []
 | .build s ps=>qw (qv8 T s) (qut (qgT T s) (mapR (fun p=>(p.1,opd t p.2)) ps.toList) (qkh T s) fun cs=>K (.agg cs) [] [] []) False
 | .buildSlice s n ps=>match (ty T s).d with
  | .slice e=>qut (fun i=>some (i * (ty T e).sz,(ty T e).sz)) (mapR (fun p=>(p.1,opd t p.2)) ps.toList) (qjp (repR (qkh T e) n)) fun cs =>
    qxd T σ e n cs (fun o k' ps=>K (.one (.own nx)) [] [.nest (ty T e).sz o k' [ps]] [])
    (toPs σ cs fun ps bs=>qw (Nat.ble (n * (ty T e).sz) 1000&&Nat.ble 1 (ty T e).sz) (K (.one (.own nx)) (mapR (fun b=>(b,.dead)) bs) [.rows (ty T e).sz (qp3 (ty T e).sz n ps)] bs) False)
  | _=>False
 | .load s x=>match opd t x with
  | .one (.ep b k i o)=>outB σ (qp4 (ty T s).d) b o (qnj σ nx b k i o K) (qlz T σ s (.one (.ep b k i o)) K)
  | a=>qlz T σ s a K
 | .store s a x=>match opd t a with
  | .one (.ep b k i o)=>outB σ (qp4 (ty T s).d) b o (match opd t x with
   | .one (.own c)=>qxa σ b k i o c K
   | _=>False) (qot T σ nx s (.one (.ep b k i o)) (opd t x) K)
  | a=>qot T σ nx s a (opd t x) K
 | .nilCheck x=>match opd t x with
  | .one (.ptr b o)=>match look σ b with
   | .box _=>K (.one (.ptr b o)) [] [] [b]
   | _=>False
  | .one (.rp cs)=>K (.one (.rp cs)) [] [] []
  | .one (.ep b k i o)=>match look σ b with
   | .rows k' l=>qw (lenB l i&&Nat.beq k k') (K (.one (.ep b k i o)) [] [] [b]) False
   | .nest k' _ _ l=>qw (lenB l i&&Nat.beq k k') (K (.one (.ep b k i o)) [] [] [b]) False
   | .hole k' _ _ _ l=>qw (lenB l i&&Nat.beq k k') (K (.one (.ep b k i o)) [] [] [b]) False
   | _=>False
  | .one (.fn f l)=>K (.one (.fn f l)) [] [] []
  | .one (.pf f l)=>K (.one (.pf f l)) [] [] []
  | _=>False
 | .binOp op s x y _=>match (ty T s).d with
  | .ptr _ | .iface=>match op with
   | .eql=>nilC T σ (ty T s) (qer x || qer y) (opd t x) (opd t y) fun b bs=>K (.one (.p (.v (.bool b)))) [] [] bs
   | .neq=>nilC T σ (ty T s) (qer x || qer y) (opd t x) (opd t y) fun b bs=>K (.one (.p (.v (.bool (!b))))) [] [] bs
   | _=>False
  | _=>binC op (ty T s) (opd t x) (opd t y) fun v=>K v [] [] []
 | .unOp op _ x=>match op,opd t x with
  | .not,.one (.p (.v (.bool b)))=>K (.one (.p (.v (.bool (!b))))) [] [] []
  | .neg,.one (.p (.v (.int k n)))=>K (.one (.p (.v (.int k (wr k (0 - n)))))) [] [] []
  | .xor,.one (.p (.v (.int k n)))=>K (.one (.p (.v (.int k (qni .xor k (if k.signed then -1 else k.max) n))))) [] [] []
  | _,_=>False
 | .convert s d x=>qyQ T σ nx (Nat.beq s d) (ty T s) (ty T d) (opd t x) K
 | .makeInterface s x=>match (ty T s).d,opd t x with
  | .int _,.one (.p (.v (.int k n)))=>K (.one (.p (.v (.iface s (.int k n))))) [] [] []
  | _,_=>False
 | .makeFunc fn first caps=>match fn,first.toList with
  | .func f,[]=>qq9 (mapR (opd t) caps.toList) fun bs=>K (.one (.fn f bs)) [] [] []
  | _,_=>False
 | .makeSlice s n c=>match (ty T s).d,opd t n,opd t c with
  | .slice e,.one (.p (.v (.int .i64 m))),.one (.p (.v (.int .i64 m')))=>qw (eqI m m'&&qyN m (ty T e).bytes&&Nat.ble 1 (ty T e).sz)
    (K (.one (.own nx)) [] [.rows (ty T e).sz (qoq (mapR PC.v (ty T e).z) m)] []) False
  | _,_,_=>False
 | .slice s x lo hi mx=>valI t lo fun a=>valI t hi fun b=>valI t mx fun m=>match (ty T s).d,opd t x with
  | .str,.one (.p (.v (.string u)))=>match m with
   | none=>qw (inC (b.getD (lenS u)) u.size&&leI 0 (a.getD 0)&&leI (a.getD 0) (b.getD (lenS u))) (K (.one (.p (.v (.string (subS u (a.getD 0).toNat (b.getD (lenS u)).toNat))))) [] [] []) False
   | some _=>False
  | .slice e,.one c=>qq8 T σ nx e c a b m K
  | _,_=>False
 | .fieldAddr s x i=>match (ty T s).d,qgT T s i with
  | .struct _,some (o,n)=>qw (Nat.beq n 0) False (match opd t x with
   | .one (.ptr b p)=>match look σ b with
    | .box _=>K (.one (.ptr b (p + o))) [] [] [b]
    | _=>False
   | .one (.ep b k i p)=>match look σ b with
    | .rows k' l=>qw (lenB l i&&Nat.beq k k') (K (.one (.ep b k i (p + o))) [] [] [b]) False
    | .nest k' _ _ l=>qw (lenB l i&&Nat.beq k k') (K (.one (.ep b k i (p + o))) [] [] [b]) False
    | .hole k' _ _ _ l=>qw (lenB l i&&Nat.beq k k') (K (.one (.ep b k i (p + o))) [] [] [b]) False
    | _=>False
   | .one (.rp cs)=>K (.one (.rp (qeq cs o))) [] [] []
   | _=>False)
  | _,_=>False
 | .field s x i=>match qgT T s i,opd t x,(ty T s).d with
  | some (o,n),.agg cs,.struct fs=>match qeq fs i with
   | (_,f)::_=>qw (Nat.ble (o + n) (lenR cs)) (cellsOf (isAgg (ty T f).d) (qfK (qeq cs o) n) fun v=>K v [] [] []) False
   | []=>False
  | _,_,_=>False
 | .indexAddr s x i=>match opd t i with
  | .one (.p (.v (.int _ j)))=>match (ty T s).d,opd t x with
   | .arr n e,.one (.ptr b o)=>match look σ b with
    | .box _=>qw (inB j n&&Nat.ble 1 (ty T e).sz) (K (.one (.ptr b (o + j.toNat * (ty T e).sz))) [] [] [b]) False
    | _=>False
   | .slice e,.one (.own b)=>match look σ b with
    | .rows k l=>qw (lenB l j&&Nat.beq k (ty T e).sz) (K (.one (.ep b k j.toNat 0)) [] [] [b]) False
    | .nest k _ _ l=>qw (lenB l j&&Nat.beq k (ty T e).sz) (K (.one (.ep b k j.toNat 0)) [] [] [b]) False
    | .hole k _ _ _ l=>qw (lenB l j&&Nat.beq k (ty T e).sz) (K (.one (.ep b k j.toNat 0)) [] [] [b]) False
    | _=>False
   | .slice e,.one (.p (.sl l))=>qw (lenB l j) (mapF pF (rowAt l j) fun r=>qw (Nat.beq (lenR r) (ty T e).sz) (K (.one (.rp r)) [] [] []) False) False
   | _,_=>False
  | _=>False
 | .index s x i=>match opd t i with
  | .one (.p (.v (.int _ j)))=>match (ty T s).d,opd t x with
   | .arr n e,.agg cs=>qw (inB j n&&Nat.ble (n * (ty T e).sz) (lenR cs)) (cellsOf (isAgg (ty T e).d) (qfK (qeq cs (j.toNat * (ty T e).sz)) (ty T e).sz) fun v=>K v [] [] []) False
   | .str,.one (.p (.v (.string s)))=>qw (inB j s.size) (K (.one (.p (.v (.int .u8 (atS s j))))) [] [] []) False
   | _,_=>False
  | _=>False
 | .extract x i=>match opd t x with
  | .tup l=>match qeq l i with
   | a::_=>K a [] [] []
   | []=>False
  | _=>False
 | .typeAssert x _ s ok=>match opd t x,(ty T s).d with
  | .one (.p (.v (.iface s' (.int k n)))),.int _=>qw (Nat.beq s s') (match ok with
   | false=>K (.one (.p (.v (.int k n)))) [] [] []
   | true=>K (.tup [.one (.p (.v (.int k n))),.one (.p (.v (.bool true)))]) [] [] []) False
  | .one (.p (.v .nilIface)),.int _=>match ok,(ty T s).z with
   | true,[z]=>K (.tup [.one (.p (.v z)),.one (.p (.v (.bool false)))]) [] [] []
   | _,_=>False
  | _,_=>False
 | .makeMap s none=>match (ty T s).d with
  | .map kt et=>match kkOf T kt with
   | some kk=>K (.one (.mp nx)) [] [.mp kk (isAgg (ty T et).d) []] []
   | none=>False
  | _=>False
 | .lookup s x i ok=>qnk T σ s (opd t x) (opd t i) ok K
 | .mapUpdate s m i v=>qhh T σ s (opd t m) (opd t i) (opd t v) K
 | .call { callee:=.builtin b,args,argTypes }=>qkj T σ nx b argTypes.toList (mapR (opd t) args.toList) K
 | _=>False
noncomputable def renC (ρ:Nat→Option Nat) (c:C) (k:C→Prop):Prop:=match c with
 | .p c=>k (.p c)
 | .own b=>match ρ b with | some b=>natF b fun b=>k (.own b) | none=>k .junk
 | .ptr b o=>match ρ b with | some b=>natF b fun b=>k (.ptr b o) | none=>k .junk
 | .ep b n i o=>match ρ b with | some b=>natF b fun b=>k (.ep b n i o) | none=>k .junk
 | .rp cs=>k (.rp cs)
 | .fn f l=>(@List.rec Nat (fun _=>(Option (List Nat)→Prop)→Prop) (fun k=>k (some [])) (fun b _ ih k=>match ρ b with
   | some b=>natF b fun b=>ih fun o=>match o with | some l=>k (some (b::l)) | none=>k none
   | none=>k none) l) fun o=>match o with | some l=>k (.fn f l) | none=>k .junk
 | .pf f l=>k (.pf f l)
 | .mp b=>match ρ b with | some b=>natF b fun b=>k (.mp b) | none=>k .junk
 | .cp r=>k (.cp r)
 | .junk=>k .junk
noncomputable def qxe (ρ:Nat→Option Nat) (a:A) (k:A→Prop):Prop:=match a with
 | .one c=>renC ρ c fun c=>k (.one c)
 | .agg l=>mapF (renC ρ) l fun l=>k (.agg l)
 | .tup _=>k (.one .junk)
noncomputable def renA (ρ:Nat→Option Nat) (a:A) (k:A→Prop):Prop:=match a with
 | .one c=>renC ρ c fun c=>k (.one c)
 | .agg l=>mapF (renC ρ) l fun l=>k (.agg l)
 | .tup l=>mapF (qxe ρ) l fun l=>k (.tup l)
noncomputable def renB (ρ:Nat→Option Nat) (b:Blk) (k:Blk→Prop):Prop:=match b with
 | .dead=>k .dead
 | .box l=>mapF (renC ρ) l fun l=>k (.box l)
 | .rows n l=>k (.rows n l)
 | .nest n o n' l=>k (.nest n o n' l)
 | .hole n o n' i l=>k (.hole n o n' i l)
 | .mp a b es=>k (.mp a b es)
noncomputable def fwd (K:List Nat) (b:Nat):Option Nat:=idxN K b 0
noncomputable def bwd (M:List Nat) (i:Nat):Option Nat:=@List.rec Nat (fun _=>Option Nat) none (fun a _ _=>some a) (qeq M i)
noncomputable def quu (c:C):List Nat:=match c with
 | .own b=>[b] | .ptr b _=>[b] | .ep b _ _ _=>[b] | .fn _ l=>l | .mp b=>[b] | _=>[]
noncomputable def qra (cs:List C):List Nat:=qjp (mapR quu cs)
noncomputable def qyS (a:A):List Nat:=match a with
 | .one c=>quu c | .agg l=>qra l | .tup _=>[]
noncomputable def qAM (a:A):List Nat:=match a with
 | .one c=>quu c | .agg l=>qra l | .tup l=>qjp (mapR qyS l)
noncomputable def qxf (b:Blk):List Nat:=match b with
 | .box l=>qra l | _=>[]
noncomputable def qrb (σ:List Blk) (fuel:Nat):List Nat→List Nat→(List Nat→Prop)→Prop :=
 @Nat.rec (fun _=>List Nat→List Nat→(List Nat→Prop)→Prop) (fun _ acc k=>k acc)
  (fun _ ih todo acc k=>match todo with
   | []=>k acc
   | b::todo=>@Bool.rec (fun _=>Prop) (natF b fun b=>appF acc [b] fun acc=>ih (appR (qxf (look σ b)) todo) acc k) (ih todo acc k) (memN b acc)) fuel
noncomputable def quv (K:List Nat) (σ:List Blk) (k:List Blk→Prop):Prop:=mapF (fun b k=>renB (fwd K) (look σ b) k) K k
noncomputable def upTo (n:Nat):List Nat:=@Nat.rec (fun _=>List Nat) [] (fun n l=>appR l [n]) n
inductive Ex where
 | normal
 | exit (id:Nat)
 | goto (l:Nat)
 | ret
inductive Task where
 | call (f:Nat) (args:List A) (σ:List Blk) (Q:A→List Blk→Prop)
 | loop (f m:Nat) (c:Code) (t:List A) (σ:List Blk) (K:Ex→List A→List Blk→Prop)
 | jump (f m:Nat) (body rest:Code) (t:List A) (σ:List Blk) (K:Ex→List A→List Blk→Prop)
 | rest (f m:Nat) (c:Code) (t:List A) (σ:List Blk) (K:Ex→List A→List Blk→Prop)
noncomputable def qp5 (c:C):Bool:=match c with
 | .p (.v _)=>true
 | _=>false
noncomputable def qrc (a:A):Bool:=match a with
 | .one c=>qp5 c | .agg l=>allR qp5 l | .tup _=>true
noncomputable def quw (a:A):Bool:=match a with
 | .one c=>qp5 c | .agg l=>allR qp5 l | .tup l=>allR qrc l
noncomputable def qxg (σ:List Blk) (l:List Nat):(List (List PC)→List Nat→Prop)→Prop :=
 @List.rec Nat (fun _=>(List (List PC)→List Nat→Prop)→Prop) (fun k=>k [] []) (fun b _ ih k=>match look σ b with
  | .box cs=>toPs σ cs fun ps bs=>ih fun l bs'=>k (ps::l) (b::appR bs bs')
  | _=>False) l
variable (md:Md)
noncomputable def argC (σ:List Blk) (L:List Nat) (c:C) (K:C→List Nat→Prop):Prop:=match c with
 | .own b=>(match md with
  | .mv=>renC (fwd L) (.own b) fun c=>K c []
  | _=>toP σ (.own b) fun c bs=>K (.p c) bs)
 | .fn f l=>(match md with
  | .ld=>qxg σ l fun ps bs=>K (.pf f ps) bs
  | _=>renC (fwd L) (.fn f l) fun c=>K c [])
 | c=>renC (fwd L) c fun c=>K c []
noncomputable def qxh (σ:List Blk) (L:List Nat) (cs:List C):(List C→List Nat→Prop)→Prop :=
 @List.rec C (fun _=>(List C→List Nat→Prop)→Prop) (fun k=>k [] []) (fun c _ ih k=>argC md σ L c fun c bs=>ih fun cs bs'=>k (c::cs) (appR bs bs')) cs
noncomputable def argA (σ:List Blk) (L:List Nat) (a:A) (K:A→List Nat→Prop):Prop:=match a with
 | .one c=>argC md σ L c fun c bs=>K (.one c) bs
 | .agg cs=>qxh md σ L cs fun cs bs=>K (.agg cs) bs
 | .tup _=>False
noncomputable def qxi (σ:List Blk) (L:List Nat) (xs:List A):(List A→List Nat→Prop)→Prop :=
 @List.rec A (fun _=>(List A→List Nat→Prop)→Prop) (fun k=>k [] []) (fun a _ ih k=>argA md σ L a fun a bs=>ih fun l bs'=>k (a::l) (appR bs bs')) xs
noncomputable def qxj (c:C):List Nat:=match c with
 | .own b=>(match md with | .mv=>[b] | _=>[])
 | .fn _ l=>(match md with | .ld=>[] | _=>l)
 | c=>quu c
noncomputable def qux (xs:List A):List Nat:=qjp (mapR (fun a=>qjp (mapR (qxj md) a.cells)) xs)
noncomputable def qyT (c:C):Bool:=match c with
 | .own _=>false
 | .fn _ l=>(match l with | []=>true | _::_=>false)
 | _=>true
noncomputable def qrd (xs:List A):Bool:=allR (fun a:A=>allR qyT a.cells) xs
noncomputable def qp6 (L bs:List Nat) (σ:List Blk) (b:Nat) (k:Blk→Prop):Prop:=@Bool.rec (fun _=>Prop) (renB (fwd L) (look σ b) k) (k .dead) (memN b bs)
noncomputable def qb3 (nx n:Nat):List Nat:=mapR (fun i=>nx + i) (upTo n)
noncomputable def zipR (l:List Nat):List Blk→List (Nat × Blk):=@List.rec Nat (fun _=>List Blk→List (Nat × Blk)) (fun _=>[]) (fun a _ ih bs=>match bs with | []=>[] | b::bs=>(a,b)::ih bs) l
variable (I:Task→Prop) (md:Md)
noncomputable def qp7 (σ:List Blk) (nx:Nat) (f:Nat) (xs:List A) (K:Kont):Prop :=
  qrb σ 60 (qux md xs) [] fun L =>
  qxi md σ L xs fun ys bs =>
  qw (allR (fun b=>Nat.ble (b + 1) nx) L) (mapF (qp6 L bs σ) L fun σc =>
  I (.call f ys σc fun r σc' =>
    qw (Nat.ble (lenR L) (lenR σc'))
      (let M:=appR L (qb3 nx (lenR σc' - lenR L))
       renA (bwd M) r fun r' =>
       mapF (renB (bwd M)) σc' fun out =>
       qw (Nat.beq (lenR out) 0&&quw r)
         (K r' [] [] bs)
         (K r' (appR (zipR L (qfK out (lenR L))) (mapR (fun b=>(b,.dead)) bs)) (qeq out (lenR L)) (appR L bs))) False)) False
noncomputable def qxk (σ:List Blk) (nx:Nat) (f:Nat) (xs:List A) (K:Kont):Prop :=
 @Bool.rec (fun _=>Prop) (qp7 I .op σ nx f xs K∨qp7 I .ld σ nx f xs K∨qp7 I .mv σ nx f xs K) (qp7 I .op σ nx f xs K) (qrd xs)
noncomputable def qre (t:List A) (f:Operand) (K:Nat→List A→Prop):Prop:=match opd t f with
 | .one (.fn f caps)=>K f (mapR (fun b=>A.one (.ptr b 0)) caps)
 | .one (.pf f caps)=>K f (mapR (fun cs=>A.one (.rp cs)) caps)
 | _=>False
noncomputable def qrf (ws:List (Nat × Blk)):List Blk→(List Blk→Prop)→Prop :=
 @List.rec (Nat × Blk) (fun _=>List Blk→(List Blk→Prop)→Prop) (fun σ k=>k σ) (fun w _ ih σ k=>bF w.2 fun b=>ih σ fun σ=>setF b σ w.1 k) ws
noncomputable def qrg (σ:List Blk) (ws:List (Nat × Blk)) (nw:List Blk) (k:List Blk→Prop):Prop :=
 qw (allR (fun (w:Nat × Blk)=>Nat.ble (w.1 + 1) (lenR σ)) ws) (qrf ws σ fun σ=>mapF bF nw fun nw=>appF σ nw k) False
noncomputable def putF (t:List A) (d:Option Nat) (v:A) (K:List A→Prop):Prop:=match d with
 | some d=>aF v fun v=>setF v t d K
 | none=>K t
noncomputable def qio (ops:List Oper) (t:List A) (o:Oper) (y n:Prop):Prop :=
 match o.guard with
 | none=>y
 | some (j,want)=>match qeq ops j with
  | oj::_=>match oj.dst with
   | some d=>match nth (.one .junk) t d with
    | .one (.p (.v (.bool b)))=>@Bool.rec (fun _=>Prop) (qw b n y) (qw b y n) want
    | .tup []=>n
    | _=>False
   | none=>n
  | []=>n
noncomputable def qxl (t:List A) (σ:List Blk) (nx:Nat) (op:Op) (K:Kont):Prop :=
 match op with
 | .call { callee:=.value f,args,.. }=>qre t f fun g caps=>qxk I σ nx g (appR (mapR (opd t) args.toList) caps) K
 | op=>qaJ T t σ nx op K
abbrev Tr:=List (List Nat × List Nat)
noncomputable def runF (all:List Oper) (l:List Oper):List A→List Blk→Tr→(List A→List Blk→Tr→Prop)→Prop :=
  @List.rec Oper (fun _=>List A→List Blk→Tr→(List A→List Blk→Tr→Prop)→Prop) (fun t σ tr K=>K t σ tr)
   (fun o _ ih t σ tr K=>qio all t o
     (qxl T I t σ (lenR σ) o.op fun v ws nw rd=>putF t o.dst v fun t=>qrg σ ws nw fun σ'=>ih t σ' ((rd,appR (mapR Prod.fst ws) (qb3 (lenR σ) (lenR nw)))::tr) K)
     (putF t o.dst (.tup []) fun t=>ih t σ (([],[])::tr) K)) l
end Go.Proofs.YtidkmoohgadjkaaGreat.E
namespace Go.Proofs.YtidkmoohgadjkaaGreat.E
open Go
def bindsG:Ground→Bool
 | .textOnly _=>false
 | .gcOnly _=>false
 | _=>true
noncomputable def sN (n:Nat) (k:Nat→Bool):Bool:=@Nat.rec (fun _=>Bool) (k 0) (fun m _=>k (m + 1)) n
noncomputable def qes (masks:List Nat) (es:List Edge):Nat :=
 @List.rec Edge (fun _=>Nat) 0 (fun e _ s=>@Bool.rec (fun _=>Nat) s (Nat.lor (Nat.lor (Nat.pow 2 e.on) (nth 0 masks e.on)) s) (bindsG e.ground)) es
noncomputable def qrh (l:List Oper):List Nat→(List Nat→Bool)→Bool :=
 @List.rec Oper (fun _=>List Nat→(List Nat→Bool)→Bool) (fun acc k=>k acc) (fun o _ ih acc k=>sN (qes acc o.after.toList) fun m=>ih (appR acc [m]) k) l
noncomputable def ordB (masks:List Nat) (i j:Nat):Bool:=Nat.beq (Nat.land (Nat.shiftRight (nth 0 masks j) i) 1) 1
noncomputable def qhD (l m:List Nat):Bool:=@List.rec Nat (fun _=>Bool) false (fun a _ ih=>@Bool.rec (fun _=>Bool) ih true (memN a m)) l
noncomputable def qv9 (x y:List Nat × List Nat):Bool:=qhD x.2 y.1 || qhD x.2 y.2 || qhD x.1 y.2
noncomputable def qkl {α:Type} (l:List (Nat × α)) (f:Nat × α→Nat × α→Bool):Bool :=
 @List.rec (Nat × α) (fun _=>Bool) true (fun a l ih=>@Bool.rec (fun _=>Bool) false ih (allR (f a) l)) l
noncomputable def qge {α:Type} (l:List α):Nat→List (Nat × α):=@List.rec α (fun _=>Nat→List (Nat × α)) (fun _=>[]) (fun a _ ih n=>(n,a)::ih (n + 1)) l
noncomputable def revR {α:Type} (l:List α):List α:=@List.rec α (fun _=>List α) [] (fun a _ ih=>appR ih [a]) l
noncomputable def qlA (ops:List Oper) (tr:Tr):Bool :=
 qrh ops [] fun masks =>
  allR (fun x:Nat × Oper=>allR (fun e:Edge=>@Bool.rec (fun _=>Bool) true (Nat.ble (e.on + 1) x.1) (bindsG e.ground)) x.2.after.toList) (qge ops 0) &&
  qkl (qge ops 0) (fun x y=>ordB masks x.1 y.1 || Oper.apart ops.toArray x.2 y.2) &&
  qkl (qge (revR tr) 0) (fun x y=>ordB masks x.1 y.1 || !qv9 x.2 y.2)
noncomputable def qgf (c:Code):Nat :=
 @Code.rec (fun _=>Nat) 0 (fun id _ _=>id + 1) (fun _ _ a b=>@Nat.rec (fun _=>Nat) b (fun n _=>n + 1) a) (fun _ _ _ a b=>@Nat.rec (fun _=>Nat) b (fun n _=>n + 1) a)
  (fun _ _ a=>a) (fun _ a=>a) (fun _ _ _ _ _ _=>0) (fun _=>0) (fun _ a=>a) (fun _=>0) (fun _=>0) 0 (fun _=>0) c
noncomputable def qjC (H:List (Nat × Nat × List Nat)) (f r:Nat):List Nat :=
 @List.rec (Nat × Nat × List Nat) (fun _=>List Nat) [] (fun h _ ih=>@Bool.rec (fun _=>List Nat) ih h.2.2 (Nat.beq h.1 f&&Nat.beq h.2.1 r)) H
noncomputable def qyU (t:List A):List Nat→List A :=
 @List.rec A (fun _=>List Nat→List A) (fun _=>[]) (fun a _ ih gs=>match gs with
  | []=>.one .junk::ih []
  | g::gs=>@Nat.rec (fun _=>List A) (a::ih gs) (fun n _=>.one .junk::ih (n::gs)) g) t
variable (T:List TI) (H:List (Nat × Nat × List Nat)) (KO:List Nat)
noncomputable def qlB (m:Nat) (σ:List Blk) (ts:List A) (k:List Nat→Prop):Prop :=
 qrb σ 200 (appR (qjp (mapR (fun b=>qxf (look σ b)) (upTo m))) (qjp (mapR qAM ts))) (upTo m) k
noncomputable def qnl (gs:List Nat) (m:Nat) (t:List A) (σ:List Blk) (k:List A→List Blk→Prop):Prop :=
 mapF aF (qyU t gs) fun ts=>qlB m σ ts fun K=>mapF (renA (fwd K)) ts fun ts=>quv K σ fun σ=>k ts σ
noncomputable def qjs (f m:Nat) (c:Code) (t:List A) (σ:List Blk) (k:List A→List Blk→Prop):Prop:=qnl (qjC H f (qgf c)) m t σ k
noncomputable def cutF (gs:List Nat) (m:Nat) (t:List A) (σ:List Blk) (d:Prop) (k:List A→List Blk→Prop):Prop:=match gs with
 | []=>d
 | g::gs=>qnl (g::gs) m t σ k
variable (I:Task→Prop)
noncomputable def qxm (f m:Nat) (body:Code) (K:Ex→List A→List Blk→Prop) (e:Ex) (t:List A) (σ:List Blk):Prop:=match e with
 | .goto l=>match findLabel body l with
  | some rest=>I (.jump f m body rest t σ K)
  | none=>K (.goto l) t σ
 | .normal=>K .normal t σ
 | .exit i=>K (.exit i) t σ
 | .ret=>K .ret t σ
noncomputable def ev (f m:Nat) (c:Code):List A→List Blk→(Ex→List A→List Blk→Prop)→Prop :=
 @Code.rec (fun _=>List A→List Blk→(Ex→List A→List Blk→Prop)→Prop)
  (fun t σ K=>K .normal t σ)
  (fun _ ops d t σ K=>runF T I ops.toList ops.toList t σ [] fun t σ tr=>@Bool.rec (fun _=>Prop) (K .normal t σ) (qlA ops.toList tr=true∧K .normal t σ) d)
  (fun _ b iha ihb t σ K=>iha t σ fun e t σ=>match e with
    | .normal=>cutF (qjC H f (1000 + qgf b)) m t σ (ihb t σ K) fun t σ=>I (.rest f m b t σ K)
    | .exit i=>K (.exit i) t σ
    | .goto i=>K (.goto i) t σ
    | .ret=>K .ret t σ)
  (fun c _ _ iha ihb t σ K=>match opd t c with
    | .one (.p (.v (.bool x)))=>qw x (iha t σ K) (ihb t σ K)
    | _=>False)
  (fun id _ ih t σ K=>ih t σ fun e t σ=>match e with
    | .exit i=>qw (Nat.beq i id) (K .normal t σ) (K (.exit i) t σ)
    | .normal=>K .normal t σ
    | .goto i=>K (.goto i) t σ
    | .ret=>K .ret t σ)
  (fun c _ t σ K=>qjs H f m c t σ fun t σ=>I (.loop f m c t σ K))
  (fun _ _ _ _ _ _ _ _ _=>False)
  (fun id t σ K=>K (.exit id) t σ)
  (fun body ih t σ K=>ih t σ (qxm I f m body K))
  (fun _ t σ K=>K .normal t σ)
  (fun l t σ K=>K (.goto l) t σ)
  (fun t σ K=>K .ret t σ)
  (fun _ _ _ _=>False) c
noncomputable def resC (t:List A) (σ:List Blk) (rs:List ResultVar):(List A→Prop)→Prop :=
 @List.rec ResultVar (fun _=>(List A→Prop)→Prop) (fun k=>k []) (fun r _ ih k=>match r with
  | .tmp a=>ih fun l=>k (nth (.one .junk) t a::l)
  | .cell a s=>match nth (.one .junk) t a with
   | .one (.ptr b p)=>qlz T σ s (.one (.ptr b p)) fun v _ _ _=>ih fun l=>k (v::l)
   | _=>False) rs
noncomputable def frzC (σ:List Blk) (c:C) (K:C→List Nat→Prop):Prop:=match c with
 | .own b=>toP σ (.own b) fun c bs=>K (.p c) bs
 | c=>K c []
noncomputable def qxn (σ:List Blk) (cs:List C):(List C→List Nat→Prop)→Prop :=
 @List.rec C (fun _=>(List C→List Nat→Prop)→Prop) (fun k=>k [] []) (fun c _ ih k=>frzC σ c fun c bs=>ih fun cs bs'=>k (c::cs) (appR bs bs')) cs
noncomputable def frzA (σ:List Blk) (a:A) (K:A→List Nat→Prop):Prop:=match a with
 | .one c=>frzC σ c fun c bs=>K (.one c) bs
 | .agg cs=>qxn σ cs fun cs bs=>K (.agg cs) bs
 | .tup _=>False
noncomputable def qxo (σ:List Blk) (xs:List A):(List A→List Nat→Prop)→Prop :=
 @List.rec A (fun _=>(List A→List Nat→Prop)→Prop) (fun k=>k [] []) (fun a _ ih k=>frzA σ a fun a bs=>ih fun l bs'=>k (a::l) (appR bs bs')) xs
noncomputable def qwa (a:A):Bool:=match a with
 | .tup _=>false
 | _=>true
noncomputable def oneR (l:List A) (K:A→Prop):Prop:=match l with
 | [a]=>K a
 | l=>qw (allR qwa l) (K (.tup l)) False
noncomputable def finC (f m:Nat) (rs:List ResultVar) (t:List A) (σ:List Blk) (Q:A→List Blk→Prop):Prop :=
 resC T t σ rs fun l =>
 @Bool.rec (fun _=>Prop)
  (qxo σ l fun l bs=>mapF aF l fun l=>qlB m σ l fun K=>mapF (renA (fwd K)) l fun l=>mapF (qp6 K bs σ) K fun σ=>oneR l fun r=>Q r σ)
  (mapF aF l fun l=>qlB m σ l fun K=>mapF (renA (fwd K)) l fun l=>quv K σ fun σ=>oneR l fun r=>Q r σ) (memN f KO)
noncomputable def qxp (f:Nat) (fn:Func) (c:Code) (xs:List A) (σ:List Blk) (Q:A→List Blk→Prop):Prop :=
 appF xs (repR (.one .junk) (fn.ntmps - lenR xs)) fun t=>ev T H I f (lenR σ) c t σ fun e t σ'=>match e with
  | .normal=>finC T KO f (lenR σ) fn.results.toList t σ' Q
  | .ret=>finC T KO f (lenR σ) fn.results.toList t σ' Q
  | .exit _=>False
  | .goto _=>False
noncomputable def nkF (cs:List C):Nat→(List C→List Blk→Prop)→Prop :=
 @List.rec C (fun _=>Nat→(List C→List Blk→Prop)→Prop) (fun _ k=>k [] [])
  (fun c _ ih nx k=>match c with
   | .p (.v (.slice none 0 0))=>Two (ih (nx + 1) fun cs nw=>natF nx fun n=>k (.own n::cs) (.rows 0 []::nw)) (Two (ih nx fun cs nw=>k (.p (.v (.slice none 0 0))::cs) nw) (ih nx fun cs nw=>k (.p (.sl [])::cs) nw))
   | c=>ih nx fun cs nw=>k (c::cs) nw) cs
variable (F:List C→Nat→(List C→List Blk→Prop)→Prop)
noncomputable def ncA (a:A) (nx:Nat) (k:A→List Blk→Prop):Prop:=match a with
 | .one c=>match c with
  | .junk=>k (.one .junk) []
  | c=>F [c] nx fun cs nw=>match cs with
   | [c]=>k (.one c) nw
   | _=>False
 | .agg cs=>F cs nx fun cs nw=>k (.agg cs) nw
 | .tup l=>k (.tup l) []
noncomputable def ncAs (l:List A):Nat→(List A→List Blk→Prop)→Prop :=
 @List.rec A (fun _=>Nat→(List A→List Blk→Prop)→Prop) (fun _ k=>k [] []) (fun a _ ih nx k=>ncA F a nx fun a nw=>ih (nx + lenR nw) fun l nw'=>k (a::l) (appR nw nw')) l
noncomputable def ncB (b:Blk) (nx:Nat) (k:Blk→List Blk→Prop):Prop:=match b with
 | .box cs=>F cs nx fun cs nw=>k (.box cs) nw
 | b=>k b []
noncomputable def ncBs (l:List Blk):Nat→(List Blk→List Blk→Prop)→Prop :=
 @List.rec Blk (fun _=>Nat→(List Blk→List Blk→Prop)→Prop) (fun _ k=>k [] []) (fun a _ ih nx k=>ncB F a nx fun a nw=>ih (nx + lenR nw) fun l nw'=>k (a::l) (appR nw nw')) l
noncomputable def ncT (t:List A) (σ:List Blk) (k:List A→List Blk→Prop):Prop :=
 ncAs F t (lenR σ) fun t nw=>ncBs F σ (lenR σ + lenR nw) fun σ' nw'=>appF σ' (appR nw nw') fun σ=>k t σ
noncomputable def kT (σ:List Blk):List Nat→(List Blk→Prop)→Prop :=
 @List.rec Blk (fun _=>List Nat→(List Blk→Prop)→Prop) (fun _ k=>k [])
  (fun b _ ih ks k=>match b with
   | .rows 0 []=>match ks with
    | n::ks=>ih ks fun l=>k (.rows n []::l)
    | []=>ih [] fun l=>k (.rows 0 []::l)
   | b=>ih ks fun l=>k (b::l)) σ
noncomputable def frA (σ:List Blk) (bs:List Nat) (a:A) (K:A→List Nat→Prop):Prop:=match a with
 | .one c=>(match c with
  | .own b=>@Bool.rec (fun _=>Prop) (K (.one (.own b)) []) (toP σ (.own b) fun c bs'=>K (.one (.p c)) bs') (memN b bs)
  | c=>K (.one c) [])
 | a=>K a []
noncomputable def frAs (σ:List Blk) (bs:List Nat) (xs:List A):(List A→List Nat→Prop)→Prop :=
 @List.rec A (fun _=>(List A→List Nat→Prop)→Prop) (fun k=>k [] []) (fun a _ ih k=>frA σ bs a fun a b1=>ih fun l b2=>k (a::l) (appR b1 b2)) xs
noncomputable def frT (m:Nat) (t:List A) (σ:List Blk) (bs:List Nat) (k:List A→List Blk→Prop):Prop :=
 frAs σ bs t fun ts bs'=>mapF aF ts fun ts=>qlB m σ ts fun K=>mapF (renA (fwd K)) ts fun ts=>mapF (qp6 K bs' σ) K fun σ=>k ts σ
variable (P:Program) (prim:Nat→List A→List Blk→A→List Blk→Prop)
def Step:Task→Prop
 | .call f xs σ Q => (∃ r σ', prim f xs σ r σ' ∧ Q r σ') ∨ (∃ fn c, P.funcs[f]? = some fn ∧ fn.body = some c ∧ (fn.name == "runtime.NumGoroutine") = false ∧ qxp T H KO I f fn c xs σ Q) ∨ (mapF nzA xs fun ys => I (.call f ys σ fun r σ' => nzA r fun r' => Q r' σ'))
 | .loop f m c t σ K=>(ev T H I f m c t σ fun e t σ=>match e with
  | .normal=>qjs H f m c t σ fun t σ=>I (.loop f m c t σ K)
  | .exit i=>K (.exit i) t σ
  | .goto i=>K (.goto i) t σ
  | .ret=>K .ret t σ)∨(ncT ncF t σ fun t σ=>qjs H f m c t σ fun t σ=>I (.loop f m c t σ K))∨(∃ ks,kT σ ks fun σ=>I (.loop f m c t σ K))∨(ncT nkF t σ fun t σ=>qjs H f m c t σ fun t σ=>I (.loop f m c t σ K))∨∃ bs,frT m t σ bs fun t σ=>I (.loop f m c t σ K)
 | .jump f m body rest t σ K=>ev T H I f m rest t σ (qxm I f m body K)
 | .rest f m c t σ K=>ev T H I f m c t σ K∨(ncT ncF t σ fun t σ=>qnl (qjC H f (1000 + qgf c)) m t σ fun t σ=>I (.rest f m c t σ K))∨(∃ ks,kT σ ks fun σ=>I (.rest f m c t σ K))∨(ncT nkF t σ fun t σ=>qnl (qjC H f (1000 + qgf c)) m t σ fun t σ=>I (.rest f m c t σ K))∨∃ bs,frT m t σ bs fun t σ=>I (.rest f m c t σ K)
end Go.Proofs.YtidkmoohgadjkaaGreat.E
namespace Go.Proofs.YtidkmoohgadjkaaGreat.E
open Go
section
variable {T:List TI} {H:List (Nat × Nat × List Nat)} {KO:List Nat} {X:Task→Prop} {P:Program} {prim:Nat→List A→List Blk→A→List Blk→Prop}
theorem qb (hX : ∀ t, Step T H KO X P prim t → X t) {f : Nat} {fn : Func} {c : Code} {xs : List A} {σ : List Blk} {Q : A → List Blk → Prop} (hf : P.funcs[f]? = some fn) (hb : fn.body = some c) (hn : (fn.name == "runtime.NumGoroutine") = false)
  (h:qxp T H KO X f fn c xs σ Q):X (.call f xs σ Q):=hX _ (.inr (.inl ⟨fn,c,hf,hb,hn,h⟩))
theorem qJ (hX:∀ t,Step T H KO X P prim t→X t) {f:Nat} {xs:List A} {σ:List Blk} {Q:A→List Blk→Prop} (h:mapF nzA xs fun ys=>X (.call f ys σ fun r σ'=>nzA r fun r'=>Q r' σ')):X (.call f xs σ Q):=hX _ (.inr (.inr h))
theorem qp8 (hX:∀ t,Step T H KO X P prim t→X t) {f:Nat} {xs:List A} {r:A} {Q:A→List Blk→Prop} (hp:prim f xs [] r []) (h:Q r []):X (.call f xs [] Q):=hX _ (.inl ⟨r,[],hp,h⟩)
theorem qe3 (hX:∀ t,Step T H KO X P prim t→X t) {f:Nat} {xs:List A} {σ σ':List Blk} {r:A} {Q:A→List Blk→Prop} (hp:prim f xs σ r σ') (h:Q r σ'):X (.call f xs σ Q):=hX _ (.inl ⟨r,σ',hp,h⟩)
theorem qfL (hX:∀ t,Step T H KO X P prim t→X t) {f m:Nat} {c:Code} {t:List A} {σ:List Blk} {K:Ex→List A→List Blk→Prop} (h:ncT ncF t σ fun t σ=>qjs H f m c t σ fun t σ=>X (.loop f m c t σ K)):X (.loop f m c t σ K):=hX _ (.inr (.inl h))
theorem qeP (hX:∀ t,Step T H KO X P prim t→X t) (ks:List Nat) {f m:Nat} {c:Code} {t:List A} {σ:List Blk} {K:Ex→List A→List Blk→Prop} (h:kT σ ks fun σ=>X (.loop f m c t σ K)):X (.loop f m c t σ K):=hX _ (.inr (.inr (.inl ⟨ks,h⟩)))
theorem qxq (hX:∀ t,Step T H KO X P prim t→X t) {f m:Nat} {c:Code} {t:List A} {σ:List Blk} {K:Ex→List A→List Blk→Prop} (h:ncT nkF t σ fun t σ=>qjs H f m c t σ fun t σ=>X (.loop f m c t σ K)):X (.loop f m c t σ K):=hX _ (.inr (.inr (.inr (.inl h))))
theorem qri (hX:∀ t,Step T H KO X P prim t→X t) {f m:Nat} {c:Code} {t:List A} {σ:List Blk} {K:Ex→List A→List Blk→Prop} (h:ncT nkF t σ fun t σ=>qnl (qjC H f (1000 + qgf c)) m t σ fun t σ=>X (.rest f m c t σ K)):X (.rest f m c t σ K):=hX _ (.inr (.inr (.inr (.inl h))))
theorem qxr (hX:∀ t,Step T H KO X P prim t→X t) (bs:List Nat) {f m:Nat} {c:Code} {t:List A} {σ:List Blk} {K:Ex→List A→List Blk→Prop} (h:frT m t σ bs fun t σ=>X (.loop f m c t σ K)):X (.loop f m c t σ K):=hX _ (.inr (.inr (.inr (.inr ⟨bs,h⟩))))
theorem qa (hX:∀ t,Step T H KO X P prim t→X t) {f m:Nat} {c:Code} {t:List A} {σ:List Blk} {K:Ex→List A→List Blk→Prop} (h:ev T H X f m c t σ fun e t σ=>match e with
  | .normal=>qjs H f m c t σ fun t σ=>X (.loop f m c t σ K)
  | .exit i=>K (.exit i) t σ
  | .goto i=>K (.goto i) t σ
  | .ret=>K .ret t σ):X (.loop f m c t σ K):=hX _ (.inl h)
theorem qt (hX:∀ t,Step T H KO X P prim t→X t) {f m:Nat} {c:Code} {t:List A} {σ:List Blk} {K:Ex→List A→List Blk→Prop} (h:ev T H X f m c t σ K):X (.rest f m c t σ K):=hX _ (.inl h)
end
noncomputable def qxs (c:Code):List Code :=
 @Code.rec (fun _=>List Code) [] (fun _ _ _=>[]) (fun _ _ a b=>appR a b) (fun _ _ _ a b=>appR a b) (fun _ _ a=>a) (fun c a=>c::a) (fun _ _ _ _ _ _=>[]) (fun _=>[]) (fun _ a=>a) (fun _=>[]) (fun _=>[]) [] (fun _=>[]) c
noncomputable def qAN (fn:Func) (n:Nat):Code:=match fn.body with
 | some c=>nth .skip (qxs c) n
 | none=>.skip
noncomputable def pad (l:List (Nat × A)) (rest:Nat):List A:=@List.rec (Nat × A) (fun _=>List A) (repR (.one .junk) rest) (fun x _ ih=>appR (repR (.one .junk) x.1) (x.2::ih)) l
structure Hold (G:Prop):Prop where
 h:G
theorem qxt {G R:Prop} (h:Hold G→R) (g:G):R:=h ⟨g⟩
theorem ql {α:Type} {a:α} {k:α→Prop} (h:k a):eqv a k:=fun r e=>e ▸ h
theorem qg {α:Type} {a b:α} {k:α→Prop} (e:a=b) (h:k b):eqv a k:=fun r e'=>by rw [e',e]; exact h
theorem bc {b:Bool} {x y:Prop} (h1:b=true→x) (h2:b=false→y):@Bool.rec (fun _=>Prop) y x b:=by cases b with | true=>exact h1 rfl | false=>exact h2 rfl
theorem bct {b:Bool} {x y:Prop} (hb:b=true) (h:x):@Bool.rec (fun _=>Prop) y x b:=by subst hb; exact h
theorem bcf {b:Bool} {x y:Prop} (hb:b=false) (h:y):@Bool.rec (fun _=>Prop) y x b:=by subst hb; exact h
theorem nt {b:Bool} (h:b=true):(!b)=false:=by subst h; rfl
theorem nf {b:Bool} (h:b=false):(!b)=true:=by subst h; rfl
theorem qgg (a:ByteArray):eqS a a=true:=by simp [eqS]
theorem qc8 {a b:ByteArray} (h:a.data.toList=b.data.toList):eqS a b=true:=by simp [eqS,h]
theorem and3 {a b c:Bool} (h1:a=true) (h2:b=true) (h3:c=true):(a&&b&&c)=true:=by subst h1; subst h2; subst h3; rfl
theorem and4 {a b c d:Bool} (h1:a=true) (h2:b=true) (h3:c=true) (h4:d=true):(a&&b&&c&&d)=true:=by subst h1; subst h2; subst h3; subst h4; rfl
theorem wr64 {n:Int} (h1 : -9223372036854775808≤n) (h2:n≤9223372036854775807):wr .i64 n=n:=by
 unfold wr IntKind.wrap
 simp [IntKind.signed,IntKind.bits]
 omega
theorem q9 {a b:Int}:ltI a b=true↔a < b:=by simp [ltI]
theorem qag {a b:Int}:ltI a b=false↔b≤a:=by simp [ltI]
theorem qa5 {a b:Int}:leI a b=true↔a≤b:=by simp [leI]
theorem qhi {a b:Int}:leI a b=false↔b < a:=by simp [leI]
theorem qdB {a b:Int}:eqI a b=true↔a=b:=by simp [eqI]
theorem qav {a b:Int}:eqI a b=false↔a≠b:=by simp [eqI]
end Go.Proofs.YtidkmoohgadjkaaGreat.E
namespace Go.Proofs.YtidkmoohgadjkaaGreat.E
open Go
inductive F2 {α β:Type} (R:α→β→Prop):List α→List β→Prop
 | nil:F2 R [] []
 | cons {a b l m}:R a b→F2 R l m→F2 R (a::l) (b::m)
namespace F2
variable {α β γ:Type} {R R':α→β→Prop}
theorem len {l:List α} {m:List β} (h:F2 R l m):l.length=m.length:=by induction h<;>simp_all
theorem mono {l:List α} {m:List β} (h:F2 R l m) (hr:∀ a b,a∈l→R a b→R' a b):F2 R' l m:=by
 induction h with
 | nil=>exact .nil
 | cons h _ ih=>exact .cons (hr _ _ (by simp) h) (ih fun a b ha=>hr a b (by simp [ha]))
theorem mono' {l:List α} {m:List β} (h:F2 R l m) (hr:∀ a b,R a b→R' a b):F2 R' l m:=h.mono fun a b _=>hr a b
theorem get {l:List α} {m:List β} (h:F2 R l m):∀ {i:Nat} {a:α},l[i]?=some a→∃ b,m[i]?=some b∧R a b:=by
 induction h with
 | nil=>intro i a h; simp at h
 | cons hab _ ih =>
  intro i a' h'
  cases i with
  | zero=>simp at h'; subst h'; exact ⟨_,rfl,hab⟩
  | succ i=>simp at h' ⊢; exact ih h'
theorem getR {l:List α} {m:List β} (h:F2 R l m):∀ {i:Nat} {b:β},m[i]?=some b→∃ a,l[i]?=some a∧R a b:=by
 induction h with
 | nil=>intro i a h; simp at h
 | cons hab _ ih =>
  intro i a' h'
  cases i with
  | zero=>simp at h'; subst h'; exact ⟨_,rfl,hab⟩
  | succ i=>simp at h' ⊢; exact ih h'
theorem of_get:∀ {l:List α} {m:List β},l.length=m.length→(∀ (i:Nat) (a:α) (b:β),l[i]?=some a→m[i]?=some b→R a b)→F2 R l m
 | [],[],_,_=>.nil
 | a::l,b::m,hl,h=>.cons (h 0 a b rfl rfl) (of_get (by simpa using hl) fun i x y hx hy=>h (i + 1) x y (by simpa using hx) (by simpa using hy))
 | [],_::_,hl,_=>by simp at hl
 | _::_,[],hl,_=>by simp at hl
theorem app {l l':List α} {m m':List β} (h:F2 R l m) (h':F2 R l' m'):F2 R (l++l') (m++m'):=by
 induction h with
 | nil=>exact h'
 | cons h _ ih=>exact .cons h ih
theorem take {l:List α} {m:List β} (h:F2 R l m):∀ n,F2 R (l.take n) (m.take n):=by
 induction h with
 | nil=>intro n; simp; exact .nil
 | cons h _ ih=>intro n; cases n with | zero=>exact .nil | succ n=>exact .cons h (ih n)
theorem drop {l:List α} {m:List β} (h:F2 R l m):∀ n,F2 R (l.drop n) (m.drop n):=by
 induction h with
 | nil=>intro n; simp; exact .nil
 | cons h h' ih=>intro n; cases n with | zero=>exact .cons h h' | succ n=>exact ih n
theorem rep {a:α} {b:β} (h:R a b):∀ n,F2 R (List.replicate n a) (List.replicate n b)
 | 0=>.nil
 | n + 1=>.cons h (rep h n)
theorem map {f:α→γ} {R'':γ→β→Prop} {l:List α} {m:List β} (h:F2 R l m) (hf:∀ a b,a∈l→R a b→R'' (f a) b):F2 R'' (l.map f) m:=by
 induction h with
 | nil=>exact .nil
 | cons h _ ih=>exact .cons (hf _ _ (by simp) h) (ih fun a b ha=>hf a b (by simp [ha]))
theorem set {l:List α} {m:List β} (h:F2 R l m) {a:α} {b:β} (hab:R a b):∀ n,F2 R (l.set n a) (m.set n b):=by
 induction h with
 | nil=>intro n; simp; exact .nil
 | cons h h' ih=>intro n; cases n with | zero=>exact .cons hab h' | succ n=>exact .cons h (ih n)
end F2
section
variable {α β:Type}
@[simp] theorem qhE (d:α) (l:List α):∀ n,nth d l n=l.getD n d:=by
 induction l with
 | nil=>intro n; rfl
 | cons a l ih=>intro n; cases n with | zero=>rfl | succ n=>exact (ih n).trans (by simp)
@[simp] theorem qa6 (l:List α):∀ n,qeq l n=l.drop n:=by
 induction l with
 | nil=>intro n; simp [qeq]
 | cons a l ih=>intro n; cases n with | zero=>rfl | succ n=>exact ih n
@[simp] theorem qeQ (l:List α):∀ n,qfK l n=l.take n:=by
 induction l with
 | nil=>intro n; simp [qfK]
 | cons a l ih=>intro n; cases n with | zero=>rfl | succ n=>exact congrArg (a :: ·) (ih n)
@[simp] theorem qah (l:List α):lenR l=l.length:=by
 induction l with
 | nil=>rfl
 | cons a l ih=>exact congrArg (· + 1) ih
@[simp] theorem qay (f:α→β) (l:List α):mapR f l=l.map f:=by
 induction l with
 | nil=>rfl
 | cons a l ih=>exact congrArg (f a :: ·) ih
@[simp] theorem qa9 (l m:List α):appR l m=l++m:=by
 induction l with
 | nil=>rfl
 | cons a l ih=>exact congrArg (a :: ·) ih
@[simp] theorem qow (l:List (List α)):qjp l=l.flatten:=by
 induction l with
 | nil=>rfl
 | cons a l ih=>show appR a (qjp l)=_; rw [qa9,ih]; rfl
@[simp] theorem qkm (a:α):∀ n,repR a n=List.replicate n a
 | 0=>rfl
 | n + 1=>congrArg (a :: ·) (qkm a n)
@[simp] theorem qeh (f:α→Bool) (l:List α):allR f l=l.all f:=by
 induction l with
 | nil=>rfl
 | cons a l ih=>show @Bool.rec (fun _=>Bool) false (allR f l) (f a)=_; rw [ih]; cases h:f a<;>simp [h]
theorem qfM (l:List α):∀ n (new:List α),n + new.length≤l.length→qdF l n new=l.take n++new++l.drop (n + new.length):=by
 induction l with
 | nil=>intro n new h; simp at h; obtain ⟨rfl,rfl⟩:=h; rfl
 | cons a l ih =>
  intro n new h
  cases n with
  | zero =>
   cases new with
   | nil =>
    show a::qdF l 0 []=_
    rw [ih 0 [] (by simp)]; simp
   | cons x xs =>
    show x::qdF l 0 xs=_
    rw [ih 0 xs (by simpa using h)]; simp [Nat.add_comm]
  | succ n =>
   show a::qdF l n new=_
   rw [ih n new (by simp at h; omega)]; simp [Nat.add_right_comm]
@[simp] theorem qfq (b:Nat) (l:List Nat):memN b l=true↔b∈l:=by
 induction l with
 | nil=>simp [memN]
 | cons a l ih =>
  show @Bool.rec (fun _=>Bool) (memN b l) true (Nat.beq a b)=true↔_
  cases h:Nat.beq a b with
  | true=>have:=Nat.eq_of_beq_eq_true h; simp [this]
  | false=>have:=Nat.ne_of_beq_eq_false h; show memN b l=true↔_; rw [ih]; simp [Ne.symm this]
theorem qlC (l:List Nat) (b:Nat):∀ n i,idxN l b n=some i→∃ j,i=n + j∧l[j]?=some b:=by
 induction l with
 | nil=>intro n i h; cases h
 | cons a l ih =>
  intro n i h
  change @Bool.rec (fun _=>Option Nat) (idxN l b (n + 1)) (some n) (Nat.beq a b)=some i at h
  cases hb:Nat.beq a b with
  | true=>rw [hb] at h; injection h with h; exact ⟨0,by omega,by simp [Nat.eq_of_beq_eq_true hb]⟩
  | false =>
   rw [hb] at h
   obtain ⟨j,hj,hl⟩:=ih _ _ h
   exact ⟨j + 1,by omega,by simpa using hl⟩
theorem qdS {l:List Nat} {b i:Nat} (h:fwd l b=some i):l[i]?=some b:=by
 obtain ⟨j,hj,hl⟩:=qlC l b 0 i h
 rw [hj,Nat.zero_add]; exact hl
theorem qox {l:List Nat} {b i:Nat} (h:bwd l i=some b):l[i]?=some b:=by
 unfold bwd at h
 rw [qa6] at h
 cases hd:l.drop i with
 | nil=>rw [hd] at h; cases h
 | cons a r =>
  rw [hd] at h; injection h with h; subst h
  have:=congrArg (·[0]?) hd
  simpa using this
@[simp] theorem qfr (n:Nat) (k:Nat→Prop):natF n k=k n:=by
 have key:∀ (l:List Nat) (m c:Nat),(∀ i a,l[i]?=some a→a=c + i)→n=c + m →
   @List.rec Nat (fun _=>Nat→Prop) (fun _=>k n) (fun a _ ih m=>@Nat.rec (fun _=>Prop) (k a) (fun m _=>ih m) m) l m=k n:=by
  intro l
  induction l with
  | nil=>intros; rfl
  | cons a l ih =>
   intro m c h hn
   cases m with
   | zero=>show k a=k n; rw [h 0 a rfl,hn]
   | succ m=>exact ih m (c + 1) (fun i x hx=>by have:=h (i + 1) x (by simpa using hx); omega) (by omega)
 refine key qq2 n 0 ?_ (by omega)
 intro i a h
 unfold qq2 at h
 match i with
 | 0 | 1 | 2 | 3 | 4 | 5 | 6 | 7 | 8 | 9 | 10 | 11 | 12 | 13 | 14 | 15 | 16 | 17 | 18 | 19 | 20 | 21 | 22 | 23 | 24 | 25 | 26 | 27 | 28 | 29 | 30 | 31 | 32 | 33 | 34 | 35 | 36 | 37 | 38 | 39 | 40=>simp at h; omega
 | n + 41=>simp at h
theorem qip {f:α→(β→Prop)→Prop} {g:α→β} (h:∀ a k,f a k=k (g a)) (l:List α):∀ k,mapF f l k=k (l.map g):=by
 induction l with
 | nil=>intro k; rfl
 | cons a l ih=>intro k; show f a (fun b=>mapF f l fun l=>k (b::l))=_; rw [h,ih]; rfl
@[simp] theorem qkn (l m:List α):∀ k,appF l m k=k (l++m):=by
 induction l with
 | nil=>intro k; rfl
 | cons a l ih=>intro k; show appF l m (fun l=>k (a::l))=_; rw [ih]; rfl
@[simp] theorem qnm (v:α) (l:List α):∀ n k,setF v l n k=k (l.set n v):=by
 induction l with
 | nil=>intro n k; simp [setF]
 | cons a l ih =>
  intro n k
  cases n with
  | zero=>rfl
  | succ n=>show setF v l n (fun l=>k (a::l))=_; rw [ih]; rfl
end
@[simp] theorem qAO (c:PC) (k:PC→Prop):pF c k=k c:=by cases c<;>rfl
@[simp] theorem qgF (l:List PC) (k:List PC→Prop):mapF pF l k=k l:=by rw [qip (g:=id) qAO,List.map_id]
@[simp] theorem qyV (l:List Nat) (k:List Nat→Prop):mapF natF l k=k l:=by rw [qip (g:=id) qfr,List.map_id]
@[simp] theorem qAP (c:C) (k:C→Prop):cF c k=k c:=by cases c<;>simp [cF]
@[simp] theorem qAQ (l:List C) (k:List C→Prop):mapF cF l k=k l:=by rw [qip (g:=id) qAP,List.map_id]
@[simp] theorem qxu (a:A) (k:A→Prop):aF a k=k a:=by cases a<;>simp [aF]
@[simp] theorem qko (l:List A) (k:List A→Prop):mapF aF l k=k l:=by rw [qip (g:=id) qxu,List.map_id]
@[simp] theorem qyW (b:Blk) (k:Blk→Prop):bF b k=k b:=by cases b<;>simp [bF]
@[simp] theorem qxv (l:List Blk) (k:List Blk→Prop):mapF bF l k=k l:=by rw [qip (g:=id) qyW,List.map_id]
@[simp] theorem qL (b:Bool) (x y:Prop):qw b x y↔(b=true∧x)∨(b=false∧y):=by cases b<;>simp [qw]
theorem qai (σ:List Blk) (b:Nat):look σ b=σ.getD b .dead:=qhE _ _ _
inductive Loc where
 | free
 | dead
 | box (g:Nat)
 | row (v:Value) (g:Option Nat)
 | nest (v:Value) (g:Nat) (fp:Nat→Prop)
 | mp (r:Nat)
def Loc.val:Loc→Option (Value × Option Nat)
 | .row v g=>some (v,g)
 | .nest v g _=>some (v,some g)
 | _=>none
structure Zone where
 s:Nat→Prop
 fr:Nat→Prop
instance:CoeFun Zone fun _=>Nat→Prop:=⟨Zone.s⟩
def Zone.all (S:Zone) (g:Nat):Prop:=S.s g∨S.fr g
inductive PR (w:World) (S:Zone):PC→Value→Prop
 | v {x:Value}:flat x=true→PR w S (.v x) x
 | sl {rows:List (List PC)} {base:Option Addr} {cap k:Nat} (vals:Nat→Nat→Value)
   (hcap:rows.length≤cap) (hk:0 < k) (hrow:∀ r∈rows,r.length=k)
   (hb:rows=[]∨∃ g o,base=some ⟨g,o,none⟩∧S g)
   (hc:∀ g o,base=some ⟨g,o,none⟩→∀ i j,i < rows.length→j < k→w.cell? ⟨g,o + i * k + j,none⟩=some (vals i j))
   (hv:∀ i j r c,rows[i]?=some r→r[j]?=some c→PR w S c (vals i j)):PR w S (.sl rows) (.slice base rows.length cap)
def RpOk (w:World) (S:Zone) (cs:List PC) (v:Value):Prop:=∃ g,∃ vals:Nat→Value,v=.pointer (some ⟨g,0,none⟩)∧S g∧(∀ j,j < cs.length→w.cell? ⟨g,0 + j,none⟩=some (vals j))∧(∀ j c,cs[j]?=some c→PR w S c (vals j))
inductive VR (w:World) (S:Zone) (inj:Nat→Loc):C→Value→Prop
 | p {c:PC} {v:Value}:PR w S c v→VR w S inj (.p c) v
 | own {b:Nat} {a:Option Addr} {n c:Nat}:(inj b=.dead∨∃ g,(inj b).val=some (.slice a n c,g))→VR w S inj (.own b) (.slice a n c)
 | ptr {b o:Nat} {a:Option Addr}:(inj b=.dead∨∃ g,inj b=.box g∧a=some ⟨g,o,none⟩)→VR w S inj (.ptr b o) (.pointer a)
 | ep {b k i o:Nat} {a:Option Addr}:(inj b=.dead∨∃ g n c,(inj b).val=some (.slice (some ⟨g,0,none⟩) n c,some g)∧a=some ⟨g,i * k + o,none⟩)→VR w S inj (.ep b k i o) (.pointer a)
 | rp {cs:List PC} {g o:Nat} (vals:Nat→Value):S g→(∀ j,j < cs.length→w.cell? ⟨g,o + j,none⟩=some (vals j))→(∀ j c,cs[j]?=some c→PR w S c (vals j)) →
   VR w S inj (.rp cs) (.pointer (some ⟨g,o,none⟩))
 | fn {f:Nat} {caps:List Nat} {vs:List Value}:F2 (fun b v=>∃ a,v=.pointer a∧(inj b=.dead∨∃ g,inj b=.box g∧a=some ⟨g,0,none⟩)) caps vs →
   VR w S inj (.fn f caps) (.func (.func f) #[] vs.toArray)
 | pf {f:Nat} {caps:List (List PC)} {vs:List Value}:F2 (RpOk w S) caps vs→VR w S inj (.pf f caps) (.func (.func f) #[] vs.toArray)
 | mp {b:Nat} {r:Option Nat}:(inj b=.dead∨∃ g,inj b=.mp g∧r=some g)→VR w S inj (.mp b) (.map r)
 | cp {rows:List (List PC)} {a:Option Addr}:PR w S (.sl rows) (.slice a rows.length rows.length)→VR w S inj (.cp rows) (.slice a rows.length rows.length)
 | junk {v:Value}:v.oneCell'=true→VR w S inj .junk v
inductive VA1 (w:World) (S:Zone) (inj:Nat→Loc):A→Value→Prop
 | one {c v}:VR w S inj c v→VA1 w S inj (.one c) v
 | agg {cs vs}:F2 (VR w S inj) cs vs→VA1 w S inj (.agg cs) (.agg vs.toArray)
 | junk {v}:VA1 w S inj (.one .junk) v
inductive VA (w:World) (S:Zone) (inj:Nat→Loc):A→Value→Prop
 | one {a v}:VA1 w S inj a v→VA w S inj a v
 | tup {l vs}:F2 (VA1 w S inj) l vs→VA w S inj (.tup l) (.tuple vs.toArray)
theorem qoy {v:Value} (h:flat v=true):v.oneCell'=true:=by cases v<;>simp_all [flat,Value.oneCell']
theorem PR.one {w S c v} (h:PR w S c v):v.oneCell'=true:=by
 cases h with
 | v h=>exact qoy h
 | sl=>rfl
theorem VR.oneCell {w S inj c v} (h:VR w S inj c v):v.oneCell'=true:=by
 cases h with
 | p h=>exact h.one
 | junk h=>exact h
 | _=>rfl
structure Grow (w:World) (S:Zone) (w':World) (S':Zone):Prop where
 os:w'.os=w.os
 tape:w'.tape=w.tape
 output:w'.output=w.output
 size:w.heap.size≤w'.heap.size
 heap:∀ g,S.all g→w'.heap[g]?=w.heap[g]?
 sub:∀ g,S g→S' g
 fr:S'.fr=S.fr
theorem Grow.all {w S w' S'} (h:Grow w S w' S') (g:Nat) (hg:S.all g):S'.all g:=hg.imp (h.sub g) fun h'=>by rw [h.fr]; exact h'
theorem Grow.refl (w S):Grow w S w S:=⟨rfl,rfl,rfl,Nat.le_refl _,fun _ _=>rfl,fun _ h=>h,rfl⟩
theorem Grow.trans {w S w' S' w'' S''} (h:Grow w S w' S') (h':Grow w' S' w'' S''):Grow w S w'' S'' :=
 ⟨h'.os.trans h.os,h'.tape.trans h.tape,h'.output.trans h.output,Nat.le_trans h.size h'.size,fun g hg=>(h'.heap g (h.all g hg)).trans (h.heap g hg),fun g hg=>h'.sub g (h.sub g hg),h'.fr.trans h.fr⟩
theorem Grow.drew (w S):Grow w S w.drew S:=⟨rfl,rfl,rfl,Nat.le_refl _,fun _ _=>rfl,fun _ h=>h,rfl⟩
theorem Grow.cell {w S w' S'} (h:Grow w S w' S') {g o:Nat} (hg:S g):w'.cell? ⟨g,o,none⟩=w.cell? ⟨g,o,none⟩:=World.cell?_of_block (h.heap g (.inl hg))
theorem PR.grow {w S w' S'} (h:Grow w S w' S') {c v} (hp:PR w S c v):PR w' S' c v:=by
 induction hp with
 | v hf=>exact .v hf
 | @sl rows base cap k vals hcap hk hrow hb hc hv ih =>
  refine .sl vals hcap hk hrow (hb.imp id fun ⟨g,o,e,hs⟩=>⟨g,o,e,h.sub g hs⟩) (fun g o e i j hi hj=>?_) ih
  rcases hb with rfl | ⟨g',o',e',hs⟩
  ·simp at hi
  ·rw [e'] at e; injection e with e; injection e with e1 e2; subst e1; subst e2
   rw [h.cell hs]; exact hc _ _ e' i j hi hj
def Same (l l':Loc):Prop:=l'=l∨∃ v g fp fp',l=.nest v g fp∧l'=.nest v g fp'
theorem Same.refl (l):Same l l:=.inl rfl
theorem Same.trans {a b c} (h:Same a b) (h':Same b c):Same a c:=by
 rcases h with rfl | ⟨v,g,fp,fp',rfl,rfl⟩
 ·exact h'
 ·rcases h' with rfl | ⟨v,g,fp,fp',e,rfl⟩
  ·exact .inr ⟨_,_,_,_,rfl,rfl⟩
  ·cases e; exact .inr ⟨_,_,_,_,rfl,rfl⟩
theorem Same.val {a b} (h:Same a b):b.val=a.val:=by
 rcases h with rfl | ⟨v,g,fp,fp',rfl,rfl⟩<;>rfl
theorem Same.eq {a b} (h:Same a b) (hn:∀ v g fp,a≠.nest v g fp):b=a:=by
 rcases h with rfl | ⟨v,g,fp,fp',rfl,rfl⟩
 ·rfl
 ·exact absurd rfl (hn _ _ _)
def Le (inj inj':Nat→Loc):Prop:=∀ b,inj b=.free∨Same (inj b) (inj' b)∨inj' b=.dead
def Le1 (l l':Loc):Prop:=l=.free∨Same l l'∨l'=.dead
theorem Le1.trans {a b c} (h:Le1 a b) (h':Le1 b c):Le1 a c:=by
 rcases h with h1 | h1 | h1
 ·exact .inl h1
 ·rcases h' with h2 | h2 | h2
  ·rcases h1 with h1 | ⟨v,g,fp,fp',e,e'⟩
   ·exact .inl (h1 ▸ h2)
   ·rw [e'] at h2; cases h2
  ·exact .inr (.inl (h1.trans h2))
  ·exact .inr (.inr h2)
 ·rcases h' with h2 | h2 | h2
  ·rw [h1] at h2; cases h2
  ·have:=h2.eq (fun v g fp e=>by rw [h1] at e; cases e); exact .inr (.inr (this.trans h1))
  ·exact .inr (.inr h2)
theorem Le.refl (inj):Le inj inj:=fun b=>.inr (.inl (.refl _))
theorem Le.trans {i j k} (h:Le i j) (h':Le j k):Le i k:=fun b=>Le1.trans (h b) (h' b)
theorem Le.dead {i j} (h:Le i j) {b} (hd:i b=.dead):j b=.dead:=by
 rcases h b with h | h | h
 ·rw [hd] at h; cases h
 ·exact (h.eq (fun v g fp e=>by rw [hd] at e; cases e)).trans hd
 ·exact h
theorem Le.some {i j} (h:Le i j) {b} {l:Loc} (hl:i b=l) (hne:l≠.free) (hn:∀ v g fp,l≠.nest v g fp):j b=.dead∨j b=l:=by
 rcases h b with h | h | h
 ·exact absurd (hl ▸ h) hne
 ·exact .inr ((h.eq (fun v g fp e=>hn v g fp (hl ▸ e))).trans hl)
 ·exact .inl h
theorem Le.valS {i j} (h:Le i j) {b} {x} (hl:(i b).val=Option.some x):j b=.dead∨(j b).val=Option.some x:=by
 rcases h b with h | h | h
 ·rw [h] at hl; cases hl
 ·exact .inr (h.val.trans hl)
 ·exact .inl h
theorem RpOk.grow {w S w' S'} (h:Grow w S w' S') {cs v} (hr:RpOk w S cs v):RpOk w' S' cs v:=by
 obtain ⟨g,vals,e,hg,hc,hp⟩:=hr
 exact ⟨g,vals,e,h.sub _ hg,fun j hj=>by rw [h.cell hg]; exact hc j hj,fun j c hj=>(hp j c hj).grow h⟩
theorem VR.grow {w S inj w' S' inj'} (h:Grow w S w' S') (hl:Le inj inj') {c v} (hv:VR w S inj c v):VR w' S' inj' c v:=by
 cases hv with
 | p hp=>exact .p (hp.grow h)
 | own hb =>
  refine .own ?_
  rcases hb with hb | ⟨g,hb⟩
  ·exact .inl (hl.dead hb)
  ·exact (hl.valS hb).imp id fun e=>⟨g,e⟩
 | ptr hb =>
  refine .ptr ?_
  rcases hb with hb | ⟨g,hb,e⟩
  ·exact .inl (hl.dead hb)
  ·exact (hl.some hb (by simp) (by simp)).imp id fun e'=>⟨g,e',e⟩
 | ep hb =>
  refine .ep ?_
  rcases hb with hb | ⟨g,n,c,hb,e⟩
  ·exact .inl (hl.dead hb)
  ·exact (hl.valS hb).imp id fun e'=>⟨g,n,c,e',e⟩
 | rp vals hg hc hp=>exact .rp vals (h.sub _ hg) (fun j hj=>by rw [h.cell hg]; exact hc j hj) (fun j c hj=>(hp j c hj).grow h)
 | fn hf =>
  refine .fn (hf.mono' ?_)
  rintro b v ⟨a,rfl,hb⟩
  refine ⟨a,rfl,?_⟩
  rcases hb with hb | ⟨g,hb,e⟩
  ·exact .inl (hl.dead hb)
  ·exact (hl.some hb (by simp) (by simp)).imp id fun e'=>⟨g,e',e⟩
 | mp hb =>
  refine .mp ?_
  rcases hb with hb | ⟨g,hb,e⟩
  ·exact .inl (hl.dead hb)
  ·exact (hl.some hb (by simp) (by simp)).imp id fun e'=>⟨g,e',e⟩
 | pf hf=>exact .pf (hf.mono' fun _ _ h'=>h'.grow h)
 | cp hp=>exact .cp (hp.grow h)
 | junk h=>exact .junk h
theorem VA1.grow {w S inj w' S' inj'} (h:Grow w S w' S') (hl:Le inj inj') {c v} (hv:VA1 w S inj c v):VA1 w' S' inj' c v:=by
 cases hv with
 | one hv=>exact .one (hv.grow h hl)
 | agg hv=>exact .agg (hv.mono' fun _ _ hv=>hv.grow h hl)
 | junk=>exact .junk
theorem VA.grow {w S inj w' S' inj'} (h:Grow w S w' S') (hl:Le inj inj') {c v} (hv:VA w S inj c v):VA w' S' inj' c v:=by
 cases hv with
 | one hv=>exact .one (hv.grow h hl)
 | tup hv=>exact .tup (hv.mono' fun _ _ hv=>hv.grow h hl)
def Loc.blk:Loc→Nat→Prop
 | .box g,x=>g=x
 | .row _ g,x=>g=some x
 | .nest _ g fp,x=>g=x∨fp x
 | .mp g,x=>g=x
 | _,_=>False
def RowOk (w:World) (S:Zone) (k:Nat) (l:List (List PC)) (v:Value) (g:Option Nat):Prop :=
 (l=[]∧g=none∧∃ a,v=.slice a 0 0) ∨
 ∃ g' cap cur e,0 < k∧g=some g'∧v=.slice (some ⟨g',0,none⟩) l.length cap∧¬ S.all g'∧w.heap[g']?=some (.cells cur e (0,0))∧l.length≤cap∧cap≤maxLen∧cur.size=cap * k ∧
  (∀ r∈l,r.length=k)∧F2 (PR w S) l.flatten (cur.toList.take (l.length * k))
structure Nest (w:World) (S:Zone) (k o k':Nat) (skip:Option Nat) (l:List (List PC)) (v:Value) (g:Nat) (fp:Nat→Prop) (cap:Nat) (cur:Array Value) (e:Nat) (ins:Nat→Option Nat):Prop where
 ok:o < k
 val:v=.slice (some ⟨g,0,none⟩) l.length cap
 own:¬ S.all g
 heap:w.heap[g]?=some (.cells cur e (0,0))
 le:l.length≤cap
 max:cap≤maxLen
 size:cur.size=cap * k
 row:∀ r∈l,r.length=k
 at_:∀ i r,l[i]?=some r→∀ j c,r[j]?=some c→∃ u,cur[i * k + j]?=some u∧u.oneCell'=true∧(j≠o→PR w S c u)∧(j=o→skip≠some i→∃ m,c=.sl m∧RowOk w S k' m u (ins i))
 fpi:∀ x,fp x↔∃ i,i < l.length∧skip≠some i∧ins i=some x
 inj:∀ i i' x,i < l.length→i' < l.length→skip≠some i→skip≠some i'→ins i=some x→ins i'=some x→i=i'
 ne:¬ fp g
def qiq (w:World) (S:Zone) (k o k':Nat) (skip:Option Nat) (l:List (List PC)) (v:Value) (g:Nat) (fp:Nat→Prop):Prop:=∃ cap cur e ins,Nest w S k o k' skip l v g fp cap cur e ins
def KeyV:KK→List PC→Value→Prop
 | .int k,cs,v=>∃ a,cs=[.v (.int k a)]∧v=.int k a
 | .str,cs,v=>∃ s,cs=[.v (.string s)]∧v=.string s
 | .ints k n,cs,v=>∃ l:List Int,l.length=n∧cs=l.map (fun a=>PC.v (.int k a))∧v=.agg (l.map (Value.int k)).toArray
def ValV (w:World) (S:Zone) (a:Bool) (cs:List PC) (v:Value):Prop:=∃ us:List Value,F2 (PR w S) cs us∧((a=false∧us=[v])∨(a=true∧v=.agg us.toArray))
def BR (w:World) (S:Zone) (inj:Nat→Loc) (loc:Loc):Blk→Prop
 | .dead=>True
 | .box cs=>∃ g vs e,loc=.box g∧¬ S.all g∧w.heap[g]?=some (.cells (vs:List Value).toArray e (0,0))∧F2 (VR w S inj) cs vs
 | .rows k l=>∃ v g,loc=.row v g∧RowOk w S k l v g
 | .nest k o k' l=>∃ v g fp,loc=.nest v g fp∧qiq w S k o k' none l v g fp
 | .hole k o k' i l=>∃ v g fp,loc=.nest v g fp∧qiq w S k o k' (some i) l v g fp
 | .mp ka va es=>∃ g entries clock,loc=.mp g∧¬ S.all g∧w.heap[g]?=some (.map entries clock)∧MapKept.Stamped entries clock∧F2 (fun (x:List PC × List PC) (m:MapEntry)=>KeyV ka x.1 m.key∧ValV w S va x.2 m.val) es entries.toList
structure Inv (w:World) (S:Zone) (inj:Nat→Loc) (f:Nat→Blk):Prop where
 live:∀ b,BR w S inj (inj b) (f b)
 sep:∀ b b' g,f b≠.dead→f b'≠.dead→(inj b).blk g→(inj b').blk g→b=b'
 lt:∀ g,S.all g→g < w.heap.size
 dj:∀ g,S.fr g→¬ S g
theorem RowOk.blk {w S k l v g} (h:RowOk w S k l v g) {x:Nat} (hg:g=some x):¬ S.all x∧x < w.heap.size:=by
 rcases h with ⟨_,rfl,_⟩ | ⟨g'',cap,cur,e,_,rfl,_,hs,hh,_⟩
 ·cases hg
 ·injection hg with hg; subst hg
  exact ⟨hs,(Array.getElem?_eq_some_iff.1 hh).1⟩
theorem RowOk.grow {w S w' S' k l v g} (h:Grow w S w' S') (hr:RowOk w S k l v g) (hw:∀ x,g=some x→w'.heap[x]?=w.heap[x]?∧¬ S'.all x):RowOk w' S' k l v g:=by
 rcases hr with hr | ⟨g'',cap,cur,e,hk,rfl,hv,_,hh,h1,h2,h3,h4,h5⟩
 ·exact .inl hr
 ·exact .inr ⟨g'',cap,cur,e,hk,rfl,hv,(hw _ rfl).2,(hw _ rfl).1.trans hh,h1,h2,h3,h4,h5.mono' fun _ _ hp=>hp.grow h⟩
theorem qh5 {α:Type} {l:List α} {i:Nat} (h:i < l.length):∃ r,l[i]?=some r:=⟨l[i],List.getElem?_eq_getElem h⟩
theorem Nest.blk {w S k o k' skip l v g fp cap cur e ins} (h:Nest w S k o k' skip l v g fp cap cur e ins) {x:Nat} (hx:fp x):¬ S.all x∧x < w.heap.size:=by
 obtain ⟨i,hi,hsk,hin⟩:=(h.fpi x).1 hx
 obtain ⟨r,hr⟩:=qh5 hi
 have hrl:=h.row r (List.mem_of_getElem? hr)
 obtain ⟨c,hc⟩:=qh5 (l:=r) (i:=o) (by rw [hrl]; exact h.ok)
 obtain ⟨u,_,_,_,h2⟩:=h.at_ i r hr o c hc
 obtain ⟨m,_,hro⟩:=h2 rfl hsk
 exact hro.blk hin
theorem Nest.grow {w S w' S' k o k' skip l v g fp cap cur e ins} (hG:Grow w S w' S') (h:Nest w S k o k' skip l v g fp cap cur e ins) (hw:∀ x,(g=x∨fp x)→w'.heap[x]?=w.heap[x]?∧¬ S'.all x):Nest w' S' k o k' skip l v g fp cap cur e ins :=
 { h with
  own:=(hw g (.inl rfl)).2
  heap:=(hw g (.inl rfl)).1.trans h.heap
  at_:=fun i r hr j c hc=>by
   obtain ⟨u,h1,h2,h3,h4⟩:=h.at_ i r hr j c hc
   refine ⟨u,h1,h2,fun hj=>(h3 hj).grow hG,fun hj hs=>?_⟩
   obtain ⟨m,hm,hro⟩:=h4 hj hs
   exact ⟨m,hm,hro.grow hG fun x hx=>hw x (.inr ((h.fpi x).2 ⟨i,(List.getElem?_eq_some_iff.1 hr).1,hs,hx⟩))⟩ }
theorem ValV.grow {w S w' S' a cs v} (h:Grow w S w' S') (hv:ValV w S a cs v):ValV w' S' a cs v:=by
 obtain ⟨us,h1,h2⟩:=hv
 exact ⟨us,h1.mono' fun _ _ hp=>hp.grow h,h2⟩
theorem BR.blk {w S inj loc B} (h:BR w S inj loc B) (hd:B≠.dead) {g:Nat} (hg:loc.blk g):¬ S.all g∧g < w.heap.size:=by
 cases B with
 | dead=>exact absurd rfl hd
 | box cs =>
  obtain ⟨g',vs,e,rfl,hs,hh,_⟩:=h
  obtain rfl:g'=g:=hg
  exact ⟨hs,(Array.getElem?_eq_some_iff.1 hh).1⟩
 | rows k l =>
  obtain ⟨v,g',rfl,hr⟩:=h
  exact hr.blk hg
 | nest k o k' l =>
  obtain ⟨v,g',fp,rfl,cap,cur,e,ins,hn⟩:=h
  rcases hg with rfl | hg
  ·exact ⟨hn.own,(Array.getElem?_eq_some_iff.1 hn.heap).1⟩
  ·exact hn.blk hg
 | hole k o k' i l =>
  obtain ⟨v,g',fp,rfl,cap,cur,e,ins,hn⟩:=h
  rcases hg with rfl | hg
  ·exact ⟨hn.own,(Array.getElem?_eq_some_iff.1 hn.heap).1⟩
  ·exact hn.blk hg
 | mp ka va es =>
  obtain ⟨g',en,cl,rfl,hs,hh,_⟩:=h
  obtain rfl:g'=g:=hg
  exact ⟨hs,(Array.getElem?_eq_some_iff.1 hh).1⟩
theorem BR.free {w S inj B} (h:BR w S inj .free B):B=.dead:=by
 cases B with
 | dead=>rfl
 | box cs=>obtain ⟨_,_,_,h,_⟩:=h; cases h
 | rows k l=>obtain ⟨_,_,h,_⟩:=h; cases h
 | nest k o k' l=>obtain ⟨_,_,_,h,_⟩:=h; cases h
 | hole k o k' i l=>obtain ⟨_,_,_,h,_⟩:=h; cases h
 | mp ka va es=>obtain ⟨_,_,_,h,_⟩:=h; cases h
theorem BR.grow {w S inj w' S' inj' loc B} (h:Grow w S w' S') (hl:Le inj inj') (hb:BR w S inj loc B) (hw:∀ g,loc.blk g→w'.heap[g]?=w.heap[g]?)
  (hs:∀ g,loc.blk g→¬ S'.all g):BR w' S' inj' loc B:=by
 cases B with
 | dead=>trivial
 | box cs =>
  obtain ⟨g',vs,e,rfl,_,hh,hf⟩:=hb
  exact ⟨g',vs,e,rfl,hs _ rfl,(hw _ rfl).trans hh,hf.mono' fun _ _ hv=>hv.grow h hl⟩
 | rows k l =>
  obtain ⟨v,g',rfl,hr⟩:=hb
  exact ⟨v,g',rfl,hr.grow h fun x hx=>⟨hw x hx,hs x hx⟩⟩
 | nest k o k' l =>
  obtain ⟨v,g',fp,rfl,cap,cur,e,ins,hn⟩:=hb
  exact ⟨v,g',fp,rfl,cap,cur,e,ins,hn.grow h fun x hx=>⟨hw x hx,hs x hx⟩⟩
 | hole k o k' i l =>
  obtain ⟨v,g',fp,rfl,cap,cur,e,ins,hn⟩:=hb
  exact ⟨v,g',fp,rfl,cap,cur,e,ins,hn.grow h fun x hx=>⟨hw x hx,hs x hx⟩⟩
 | mp ka va es =>
  obtain ⟨g',en,cl,rfl,_,hh,hst,hf⟩:=hb
  exact ⟨g',en,cl,rfl,hs _ rfl,(hw _ rfl).trans hh,hst,hf.mono' fun _ _ ⟨hk,hv⟩=>⟨hk,hv.grow h⟩⟩
end Go.Proofs.YtidkmoohgadjkaaGreat.E
namespace Go.Proofs.YtidkmoohgadjkaaGreat.E
open Go
def eqV:Value→Value→Value→Option Bool
 | .int k _,.int k1 a,.int k2 b=>if k=k1∧k=k2 then some (a == b) else none
 | .string _,.string a,.string b=>some (a.toList == b.toList)
 | .bool _,.bool a,.bool b=>some (a == b)
 | .complex k _ _,.complex k1 a b,.complex k2 c d=>if k=k1∧k=k2 then some (Op.floatEq k a c&&Op.floatEq k b d) else none
 | _,_,_=>none
def eqZ:List Value→List Value→List Value→Option Bool
 | [],[],[]=>some true
 | z::zs,x::xs,y::ys=>match eqV z x y with
  | some true=>eqZ zs xs ys
  | some false=>if xs.length=zs.length∧ys.length=zs.length then some false else none
  | none=>none
 | _,_,_=>none
def EqP (P:Program) (t:Nat) (z:List Value):Prop:=P.eqGuardType P.depth t=false∧∀ (xs ys:List Value) (b:Bool) (w:World),eqZ z xs ys=some b→(Op.equal t (.agg xs.toArray) (.agg ys.toArray)).run P w=.ok b w
def DescOk (P:Program) (t:Nat):TD→Prop
 | .int k=>P.underlying t=some (.int k)
 | .bool=>P.underlying t=some .bool
 | .str=>P.underlying t=some .string
 | .flt k=>P.underlying t=some (.float k)
 | .cplx k=>P.underlying t=some (.complex k)
 | .ptr e=>P.underlying t=some (.pointer e)
 | .slice e=>P.underlying t=some (.slice e)
 | .arr n e=>P.underlying t=some (.array n e)
 | .struct fs=>∃ fields,P.underlying t=some (.struct fields)∧fields.toList.map (fun f=>(f.offset,f.type))=fs
 | .map k e=>P.underlying t=some (.map k e)
 | .iface=>∃ ms,P.underlying t=some (.interface ms)
 | .other=>True
structure InfoOk (P:Program) (t:Nat) (x:TI):Prop where
 d:DescOk P t x.d
 kn:x.d≠.other
 info:∃ i zv,P.info? t=some i∧i.size=x.sz∧i.bytes=x.bytes∧i.zero=some zv∧zv.cells.toList=x.z∧(isAgg x.d=false→x.z=[zv])∧((∃ k,x.d=.int k)→i.comparable=true)∧(isAgg x.d=true→∃ cs,zv=.agg cs)
 z:x.z.length=x.sz
 fl:∀ v∈x.z,flat v=true
 eq:x.eq=true→EqP P t x.z
def TIOk (P:Program) (t:Nat) (x:TI):Prop:=x=TI.none∨InfoOk P t x
def TOk (P:Program) (T:List TI):Prop:=∀ t,TIOk P t (ty T t)
theorem InfoOk.size {P t x} (h:InfoOk P t x) (w:World):(sizeOf t).run P w=.ok x.sz w:=by
 obtain ⟨i,zv,hi,hs,_⟩:=h.info
 simp [sizeOf,typeInfo,hi,hs]
theorem TIOk.known {P t x} (h:TIOk P t x) (hn:x.sz≠0):InfoOk P t x:=by
 rcases h with rfl | h
 ·exact absurd rfl hn
 ·exact h
theorem TIOk.desc {P t x} (h:TIOk P t x) (hn:x.d≠.other):InfoOk P t x:=by
 rcases h with rfl | h
 ·exact absurd rfl hn
 ·exact h
noncomputable def upd (f:Nat→Blk) (nx:Nat) (ws:List (Nat × Blk)) (nw:List Blk) (b:Nat):Blk :=
 if nx≤b∧b < nx + nw.length then nw.getD (b - nx) .dead else match ws.find? (fun x=>x.1 == b) with
  | some x=>x.2
  | none=>f b
structure Post (w:World) (S:Zone) (inj:Nat→Loc) (f:Nat→Blk) (nx:Nat) (v:A) (ws:List (Nat × Blk)) (nw:List Blk) (v':Value) (w':World) (S':Zone) (inj':Nat→Loc):Prop where
 grow:Grow w S w' S'
 le:Le inj inj'
 fresh:∀ b,inj b=.free→(b < nx∨nx + nw.length≤b)→inj' b=.free
 val:VA w' S' inj' v v'
 inv:Inv w' S' inj' (upd f nx ws nw)
def OpOk (P:Program) (t:List A) (σ:List Blk) (nx:Nat) (o:Oper) (v:A) (ws:List (Nat × Blk)) (nw:List Blk) (rd:List Nat):Prop :=
 ∀ (a:Act) (f:Nat→Blk) (w:World) (S:Zone) (inj:Nat→Loc) (next:Act→World→Prop) (Q:Exit→Act→World→Prop),
  (∀ x,x∈o.op.operands→VA w S inj (opd t x) (a.eval x))→(∀ b,b∈rd++ws.map Prod.fst→f b=look σ b)→Inv w S inj f →
  (∀ i,i < nw.length→inj (nx + i)=.free∧f (nx + i)=.dead) →
  (∀ v' w' S' inj',Post w S inj f nx v ws nw v' w' S' inj'→next (a.put o.dst v') w')→o.wp P a w next Q
theorem qcT (f:Nat→Blk) (nx:Nat):upd f nx [] []=f:=by
 funext b; unfold upd; rw [if_neg (by simp)]; rfl
theorem qX {P:Program} {o:Oper} {a:Act} {w w':World} {next:Act→World→Prop} {Q:Exit→Act→World→Prop} {v:Value}
  (h:(execOp a.eval o).run P w=.ok (.value v) w') (hn:next (a.put o.dst v) w'):o.wp P a w next Q:=by
 unfold Oper.wp; rw [h]; exact hn
theorem qgh {P:Program} {o:Oper} {a:Act} {w w':World} {next:Act→World→Prop} {Q:Exit→Act→World→Prop}
  (h:(execOp a.eval o).run P w=.ok .skip w') (hn:next (a.put o.dst undef) w'):o.wp P a w next Q:=by
 unfold Oper.wp; rw [h]; exact hn
theorem VA.cellv {w S inj c v} (hc:c≠.junk) (h:VA w S inj (.one c) v):VR w S inj c v:=by
 cases h with
 | one h=>cases h with
  | one h=>exact h
  | junk=>exact absurd rfl hc
theorem VA.ofc {w S inj c v} (h:VR w S inj c v):VA w S inj (.one c) v:=.one (.one h)
theorem VA.flatv {w S inj x v} (h:VA w S inj (.one (.p (.v x))) v):v=x∧Go.Proofs.YtidkmoohgadjkaaGreat.E.flat x=true:=by
 have:=h.cellv (by simp)
 cases this with | p h1=>cases h1 with | v h2=>exact ⟨rfl,h2⟩
theorem VA.ofv {w S inj x} (h:Go.Proofs.YtidkmoohgadjkaaGreat.E.flat x=true):VA w S inj (.one (.p (.v x))) x:=.ofc (.p (.v h))
theorem VA.agg' {w S inj cs v} (h:VA w S inj (.agg cs) v):∃ vs:List Value,v=.agg vs.toArray∧F2 (VR w S inj) cs vs:=by
 cases h with | one h=>cases h with | agg h=>exact ⟨_,rfl,h⟩
theorem Post.same {w S inj f nx v v'} (hi:Inv w S inj f) (hv:VA w S inj v v'):Post w S inj f nx v [] [] v' w S inj :=
 ⟨.refl _ _,.refl _,fun _ h _=>h,hv,by rw [qcT]; exact hi⟩
theorem qgU {w S inj a v cs} (h:VA w S inj a v) (hc:qhC a (fun x=>x=cs)):∃ vs:List Value,v.cells=vs.toArray∧F2 (VR w S inj) cs vs:=by
 cases a with
 | tup l=>exact hc.elim
 | agg l=>cases hc; obtain ⟨vs,rfl,hf⟩:=h.agg'; exact ⟨vs,rfl,hf⟩
 | one c =>
  have hj:c≠.junk:=by rintro rfl; exact hc.elim
  have hv:=h.cellv hj
  have:cs=[c]:=by cases c<;>first | exact hc.symm | exact hc.elim
  subst this
  refine ⟨[v],?_,.cons hv .nil⟩
  have:=hv.oneCell
  cases v<;>simp_all [Value.cells,Value.oneCell']
theorem qgi {a:A} {K:List C→Prop} (h:qhC a K):∃ cs,qhC a (fun x=>x=cs)∧K cs:=by
 cases a with
 | tup l=>exact h.elim
 | agg l=>exact ⟨l,rfl,h⟩
 | one c=>cases c<;>first | exact h.elim | exact ⟨_,rfl,h⟩
theorem hao (w:World) (o:Obj) (i:Nat) (h:i < w.heap.size):(w.alloc o).heap[i]?=w.heap[i]?:=by
 show (w.heap.push o)[i]?=w.heap[i]?
 rw [Array.getElem?_push,if_neg (Nat.ne_of_lt h)]
theorem han (w:World) (o:Obj):(w.alloc o).heap[w.heap.size]?=some o:=by
 show (w.heap.push o)[w.heap.size]?=some o
 simp
theorem Grow.alloc {w S} (hlt:∀ g,S.all g→g < w.heap.size) (o:Obj):Grow w S (w.alloc o) S :=
 ⟨rfl,rfl,rfl,by simp,fun g hg=>hao w o g (hlt g hg),fun _ h=>h,rfl⟩
noncomputable def qbG (inj:Nat→Loc) (n:Nat) (l:Loc) (b:Nat):Loc:=if b=n then l else inj b
theorem qa7 {inj n l} (h:inj n=.free):Le inj (qbG inj n l):=fun b=>by
 unfold qbG; split
 ·rename_i e; subst e; exact .inl h
 ·exact .inr (.inl (.refl _))
theorem qe4 {inj n}:Le inj (qbG inj n .dead):=fun b=>by
 unfold qbG; split
 ·exact .inr (.inr rfl)
 ·exact .inr (.inl (.refl _))
@[simp] theorem qA {inj n l}:qbG inj n l n=l:=by simp [qbG]
theorem qu {inj n l b} (h:b≠n):qbG inj n l b=inj b:=by simp [qbG,h]
noncomputable def setB (f:Nat→Blk) (n:Nat) (B:Blk) (b:Nat):Blk:=if b=n then B else f b
@[simp] theorem qaa {f n B}:setB f n B n=B:=by simp [setB]
theorem qZ {f n B b} (h:b≠n):setB f n B b=f b:=by simp [setB,h]
theorem Inv.set {w S inj f w' inj' n B loc} (hi:Inv w S inj f) (hg:Grow w S w' S) (hl:Le inj inj') (hinj:∀ b,b≠n→inj' b=inj b) (hn:inj' n=loc)
  (hw:∀ b g,b≠n→f b≠.dead→(inj b).blk g→w'.heap[g]?=w.heap[g]?∧¬ S.all g)
  (hB:BR w' S inj' loc B) (hsep:B≠.dead→∀ b g,b≠n→f b≠.dead→loc.blk g→(inj b).blk g→False) (hlt:∀ g,S.all g→g < w'.heap.size):Inv w' S inj' (setB f n B):=by
 refine ⟨fun b=>?_,fun b b' g hb hb' hg1 hg2=>?_,hlt,hi.dj⟩
 ·by_cases e:b=n
  ·subst e; rw [qaa,hn]; exact hB
  ·rw [qZ e,hinj b e]
   by_cases hd:f b=.dead
   ·rw [hd]; trivial
   ·exact (hi.live b).grow hg hl (fun g h=>(hw b g e hd h).1) (fun g h=>(hw b g e hd h).2)
 ·by_cases e:b=n<;>by_cases e':b'=n
  ·exact e.trans e'.symm
  ·subst e
   rw [qaa] at hb; rw [qZ e'] at hb'; rw [hinj b' e'] at hg2; rw [hn] at hg1
   exact (hsep hb b' g e' hb' hg1 hg2).elim
  ·subst e'
   rw [qaa] at hb'; rw [qZ e] at hb; rw [hinj b e] at hg1; rw [hn] at hg2
   exact (hsep hb' b g e hb hg2 hg1).elim
  ·rw [qZ e] at hb; rw [qZ e'] at hb'; rw [hinj b e] at hg1; rw [hinj b' e'] at hg2
   exact hi.sep b b' g hb hb' hg1 hg2
theorem Inv.new {w S inj f n B loc} {o:Obj} (hi:Inv w S inj f) (hfree:inj n=.free) (hloc:∀ g,loc.blk g→g=w.heap.size)
  (hB:BR (w.alloc o) S (qbG inj n loc) loc B):Inv (w.alloc o) S (qbG inj n loc) (setB f n B):=by
 refine hi.set (.alloc hi.lt o) (qa7 hfree) (fun b h=>qu h) qA (fun b g hb hd hg=>?_) hB (fun _ b g hb hd hg1 hg2=>?_) (fun g hg=>by simp; have:=hi.lt g hg; omega)
 ·obtain ⟨hs,hlt⟩:=(hi.live b).blk hd hg
  exact ⟨hao w o g hlt,hs⟩
 ·have:=((hi.live b).blk hd hg2).2
  have:=hloc g hg1
  omega
theorem Inv.ghost {w S inj f n B loc} (hi:Inv w S inj f) (hfree:inj n=.free) (hloc:∀ x,¬ loc.blk x) (hB:BR w S (qbG inj n loc) loc B):Inv w S (qbG inj n loc) (setB f n B) :=
 hi.set (.refl _ _) (qa7 hfree) (fun b h=>qu h) qA (fun b g hb hd hg=>⟨rfl,((hi.live b).blk hd hg).1⟩) hB (fun _ b g hb hd hg1 hg2=>(hloc g hg1).elim) hi.lt
theorem VR.nilv {w S inj v} (h:VR w S inj (.p (.v (.slice none 0 0))) v):v=.slice none 0 0:=by
 cases h with | p h=>cases h; rfl
theorem qet {f:Nat→Blk} {nx b:Nat} {B:Blk} {nw:List Blk}:upd (setB f nx B) (nx + 1) [] nw b=upd f nx [] (B::nw) b:=by
 unfold upd setB
 by_cases h:b=nx
 ·subst h
  rw [if_neg (by omega),if_pos (by simp)]
  simp
 ·by_cases h2:nx + 1≤b∧b < nx + 1 + nw.length
  ·rw [if_pos h2,if_pos (by simp; omega)]
   rw [show b - nx=(b - (nx + 1)) + 1 from by omega]
   rfl
  ·have h3:¬ (nx≤b∧b < nx + (B::nw).length):=by simp only [List.length_cons]; omega
   rw [if_neg h2,if_neg h3]
   simp only [List.find?_nil,if_neg h]
theorem qyX {c : C} {cs : List C} {nx : Nat} {K : List C → List Blk → Prop} (hc : c ≠ .p (.v (.slice none 0 0))) (h : ncF (c :: cs) nx K) : ncF cs nx (fun cs nw => K (c :: cs) nw) := by
  have h' : (fun (c : C) => (match c with
          | .p (.v (.slice none 0 0)) => ncF cs (nx + 1) fun cs nw => natF nx fun n => K (.own n :: cs) (.rows 0 [] :: nw)
          | c => ncF cs nx fun cs nw => K (c :: cs) nw : Prop)) c := h
  clear h
  simp only at h'
  exact h'
theorem qrj (cs:List C):∀ (nx:Nat) (K:List C→List Blk→Prop),ncF cs nx K→∃ cs' nw,K cs' nw∧cs'.length=cs.length ∧
  ∀ {w S inj f vs},Inv w S inj f→F2 (VR w S inj) cs vs→(∀ i,i < nw.length→inj (nx + i)=.free∧f (nx + i)=.dead) →
   ∃ inj',Le inj inj'∧(∀ b,(b < nx∨nx + nw.length≤b)→inj' b=inj b)∧F2 (VR w S inj') cs' vs∧Inv w S inj' (upd f nx [] nw):=by
 induction cs with
 | nil =>
  intro nx K h
  refine ⟨[],[],h,rfl,fun {w S inj f vs} hi hf hfr=>⟨inj,.refl _,fun _ _=>rfl,hf,by rw [qcT]; exact hi⟩⟩
 | cons c cs ih =>
  intro nx K h
  by_cases hc:c=.p (.v (.slice none 0 0))
  ·subst hc
   change ncF cs (nx + 1) _ at h
   obtain ⟨cs',nw,hk,hl,hok⟩:=ih _ _ h
   rw [qfr] at hk
   refine ⟨_,_,hk,by simp [hl],fun {w S inj f vs} hi hf hfr=>?_⟩
   cases hf with
   | @cons _ v _ vs hv hvs =>
   have hv:=hv.nilv; subst hv
   have h0:=hfr 0 (by simp)
   have hi1:Inv w S (qbG inj nx (.row (.slice none 0 0) none)) (setB f nx (.rows 0 [])) :=
    hi.ghost h0.1 (fun x h=>by cases h) ⟨_,_,rfl,.inl ⟨rfl,rfl,none,rfl⟩⟩
   have hle:=qa7 (l:=.row (.slice none 0 0) none) h0.1
   obtain ⟨inj',hle',hsame,hf',hi'⟩:=hok hi1 (hvs.mono' fun _ _ h=>h.grow (.refl _ _) hle) (fun i hi=>by
    have:=hfr (i + 1) (by simp; exact hi)
    rw [qu (by omega),qZ (by omega)]
    rwa [show nx + (i + 1)=nx + 1 + i from by omega] at this)
   refine ⟨inj',hle.trans hle',fun b hb=>?_,.cons (.own ?_) hf',?_⟩
   ·rw [hsame b (by simp at hb; omega),qu (by simp at hb; omega)]
   ·rw [hsame nx (by omega),qA]; exact .inr ⟨none,rfl⟩
   ·refine ⟨fun b=>?_,fun b b' g h1 h2 h3 h4=>hi'.sep b b' g ?_ ?_ h3 h4,hi'.lt,hi'.dj⟩
    ·have:=hi'.live b
     rwa [qet] at this
    ·rwa [qet]
    ·rwa [qet]
  ·have h':=qyX hc h
   obtain ⟨cs',nw,hk,hl,hok⟩:=ih _ _ h'
   refine ⟨_,_,hk,by simp [hl],fun {w S inj f vs} hi hf hfr=>?_⟩
   cases hf with
   | @cons _ v _ vs hv hvs =>
   obtain ⟨inj',hle,hsame,hf',hi'⟩:=hok hi hvs hfr
   exact ⟨inj',hle,hsame,.cons (hv.grow (.refl _ _) hle) hf',hi'⟩
theorem qyY {g:Bool} (cs:List C) (nx:Nat) (K:List C→List Blk→Prop) (h:ncS g cs nx K):∃ cs' nw,K cs' nw∧cs'.length=cs.length ∧
  ∀ {w S inj f vs},Inv w S inj f→F2 (VR w S inj) cs vs→(∀ i,i < nw.length→inj (nx + i)=.free∧f (nx + i)=.dead) →
   ∃ inj',Le inj inj'∧(∀ b,(b < nx∨nx + nw.length≤b)→inj' b=inj b)∧F2 (VR w S inj') cs' vs∧Inv w S inj' (upd f nx [] nw):=by
 cases g with
 | true=>exact ⟨cs,[],h,rfl,fun {w S inj f vs} hi hf _=>⟨inj,.refl _,fun _ _=>rfl,hf,by rw [qcT]; exact hi⟩⟩
 | false=>exact qrj cs nx K h
end Go.Proofs.YtidkmoohgadjkaaGreat.E
namespace Go.Proofs.YtidkmoohgadjkaaGreat.E
open Go
variable {P:Program} {T:List TI} {t:List A} {σ:List Blk} {nx:Nat} {o:Oper} {K:Kont}
def qM (P:Program) (t:List A) (σ:List Blk) (nx:Nat) (o:Oper) (K:Kont):Prop:=∃ v ws nw rd,K v ws nw rd∧OpOk P t σ nx o v ws nw rd
theorem qab {v:A} {rd:List Nat} (hk:K v [] [] rd)
  (h:∀ (a:Act) (f:Nat→Blk) (w:World) (S:Zone) (inj:Nat→Loc),(∀ x,x∈o.op.operands→VA w S inj (opd t x) (a.eval x))→(∀ b,b∈rd→f b=look σ b)→Inv w S inj f →
   ∃ v',(execOp a.eval o).run P w=.ok (.value v') w∧VA w S inj v v'):qM P t σ nx o K :=
 ⟨v,[],[],rd,hk,fun a f w S inj next Q ho hf hi _ hn=>by
  obtain ⟨v',hr,hv⟩:=h a f w S inj ho (fun b hb=>hf b (by simp [hb])) hi
  exact qX hr (hn v' w S inj (Post.same hi hv))⟩
theorem qir (f:Nat→Blk) (n:Nat) (B:Blk):upd f n [] [B]=setB f n B:=by
 funext b; rw [←qet,qcT]
theorem quy (f:Nat→Blk) (n:Nat) (B:Blk) (nw:List Blk):upd f n [] (B::nw)=setB (upd f (n + 1) [] nw) n B:=by
 funext b
 by_cases h:b=n
 ·subst h; simp [upd,setB]
 ·rw [qZ h]
  unfold upd
  by_cases h2:n + 1≤b∧b < n + 1 + nw.length
  ·have h3:n≤b∧b < n + (B::nw).length:=by simp only [List.length_cons]; omega
   rw [if_pos h2,if_pos h3,show b - n=(b - (n + 1)) + 1 from by omega]
   rfl
  ·have h3:¬ (n≤b∧b < n + (B::nw).length):=by simp only [List.length_cons]; omega
   rw [if_neg h2,if_neg h3]
theorem qrk {x:Operand} (ho:o.op=.move x∨o.op=.assign x) (h:qaJ T t σ nx (.move x) K):qM P t σ nx o K:=by
 have hrun:∀ (a:Act) (w:World),(execOp a.eval o).run P w=.ok (.value (a.eval x)) w:=fun a w=>by
  unfold execOp; rcases ho with ho | ho<;>simp [ho]
 have hmem:x∈o.op.operands:=by rcases ho with ho | ho<;>simp [ho,Op.operands]
 dsimp only [qaJ] at h
 split at h
 ·rename_i hx
  refine ⟨_,_,_,_,h,fun a f w S inj next Q hop hf hi hfr hn=>qX (hrun a w) (hn _ w S (qbG inj nx (.row (.slice none 0 0) none)) ?_)⟩
  have hv:=hop x hmem
  rw [hx] at hv
  obtain ⟨he,_⟩:=hv.flatv
  rw [he]
  have h0:=hfr 0 (by simp)
  refine ⟨.refl _ _,qa7 h0.1,fun b hb hb'=>?_,.ofc (.own (.inr ⟨none,by rw [qA]; rfl⟩)),?_⟩
  ·rw [qu (by simp at hb'; omega)]; exact hb
  ·rw [qir]; exact hi.ghost h0.1 (fun x h=>by cases h) ⟨_,_,rfl,.inl ⟨rfl,rfl,none,rfl⟩⟩
 ·exact qab h fun a f w S inj hop hf hi=>⟨_,hrun a w,hop x hmem⟩
theorem qxw {c x y:Operand} (ho:o.op=.pick c x y) (h:qaJ T t σ nx (.pick c x y) K):qM P t σ nx o K:=by
 dsimp only [qaJ] at h
 split at h
 ·rename_i b hc
  have hrun:∀ (a:Act) (w:World) (S inj),VA w S inj (opd t c) (a.eval c)→(execOp a.eval o).run P w=.ok (.value (if b then a.eval x else a.eval y)) w:=fun a w S inj hv=>by
   rw [hc] at hv
   obtain ⟨he,_⟩:=hv.flatv
   unfold execOp; simp [ho,he,asBool]
  cases b with
  | true=>exact qab (rd:=[]) (v:=opd t x) h fun a f w S inj hop hf hi=>⟨_,hrun a w S inj (hop c (by simp [ho,Op.operands])),hop x (by simp [ho,Op.operands])⟩
  | false=>exact qab (rd:=[]) (v:=opd t y) h fun a f w S inj hop hf hi=>⟨_,hrun a w S inj (hop c (by simp [ho,Op.operands])),hop y (by simp [ho,Op.operands])⟩
 ·exact h.elim
theorem qrl {cs:List C} (h:ncF cs (nx + 1) fun cs nw=>K (.one (.ptr nx 0)) [] (.box cs::nw) [])
  (hrun:∀ (a:Act) (w:World) (S inj f),(∀ x,x∈o.op.operands→VA w S inj (opd t x) (a.eval x))→Inv w S inj f →
   ∃ (vs:List Value) (e:TypeId),F2 (VR w S inj) cs vs∧(execOp a.eval o).run P w=.ok (.value (.pointer (some ⟨w.heap.size,0,none⟩))) (w.alloc (.cells vs.toArray e))):qM P t σ nx o K:=by
 obtain ⟨cs',nw,hk,hl,hok⟩:=qrj _ _ _ h
 refine ⟨_,_,_,_,hk,fun a f w S inj next Q hop hf hi hfr hn=>?_⟩
 obtain ⟨vs,e,hv,hr⟩:=hrun a w S inj f hop hi
 obtain ⟨inj1,hle,hsame,hv',hi'⟩:=hok hi hv (fun i hi=>by
  have:=hfr (i + 1) (by simp; exact hi)
  rwa [show nx + (i + 1)=nx + 1 + i from by omega] at this)
 have h0:=hfr 0 (by simp)
 have hfree:inj1 nx=.free:=by rw [hsame nx (by omega)]; exact h0.1
 have hle2:=qa7 (l:=.box w.heap.size) hfree
 refine qX hr (hn _ _ S (qbG inj1 nx (.box w.heap.size)) ⟨.alloc hi.lt _,hle.trans hle2,fun b hb hb'=>?_,.ofc (.ptr (.inr ⟨_,by rw [qA],rfl⟩)),?_⟩)
 ·rw [qu (by simp at hb'; omega),hsame b (by simp at hb'; omega)]; exact hb
 ·rw [quy]
  refine hi'.new hfree (fun g hg=>(show w.heap.size=g from hg).symm) ⟨_,vs,e,rfl,fun hs=>absurd (hi.lt _ hs) (by omega),han w _,hv'.mono' fun _ _ h=>h.grow (.alloc hi.lt _) hle2⟩
theorem quz (hT:TOk P T) {e:Nat} (ho:o.op=.alloc e) (h:qaJ T t σ nx (.alloc e) K):qM P t σ nx o K:=by
 dsimp only [qaJ] at h
 rw [qL] at h
 rcases h with ⟨hs,h⟩ | ⟨_,h⟩
 ·refine qrl h fun a w S inj f hop hi=>?_
  have hI:=(hT e).known (by have:=Nat.le_of_ble_eq_true hs; omega)
  obtain ⟨i,zv,hi',_,_,hz,hc,_⟩:=hI.info
  refine ⟨(ty T e).z,e,?_,?_⟩
  ·rw [qkh,qay]
   refine F2.of_get (by simp) fun i a b ha hb=>?_
   simp at ha
   obtain ⟨x,hx,rfl⟩:=ha
   rw [hx] at hb; injection hb with hb; subst hb
   exact .p (.v (hI.fl x (List.mem_of_getElem? hx)))
  ·unfold execOp
   simp [ho,Instr.alloc,zeroValue,typeInfo,hi',hz,newVar,newRow,←hc]
 ·exact h.elim
theorem qyZ {e:Nat} {x:Operand} (ho:o.op=.box e x) (h:qaJ T t σ nx (.box e x) K):qM P t σ nx o K:=by
 dsimp only [qaJ] at h
 obtain ⟨cs,hc,h⟩:=qgi h
 refine qrl h fun a w S inj f hop hi=>?_
 obtain ⟨vs,hv,hf⟩:=qgU (hop x (by simp [ho,Op.operands])) hc
 refine ⟨vs,e,hf,?_⟩
 unfold execOp
 simp [ho,Instr.box,newVar,newRow,hv]
theorem Inv.box {w S inj f b cs} (hi:Inv w S inj f) (hb:f b=.box cs):∃ g vs e,inj b=.box g∧¬ S.all g∧w.heap[g]?=some (.cells (vs:List Value).toArray e (0,0))∧F2 (VR w S inj) cs vs:=by
 have:=hi.live b
 rw [hb] at this
 exact this
theorem Inv.rows {w S inj f b k l} (hi:Inv w S inj f) (hb:f b=.rows k l):∃ v g,inj b=.row v g∧RowOk w S k l v g:=by
 have:=hi.live b
 rw [hb] at this
 exact this
theorem VR.ptrv {w S inj b o v g} (h:VR w S inj (.ptr b o) v) (hb:inj b=.box g):v=.pointer (some ⟨g,o,none⟩):=by
 cases h with
 | ptr h =>
  rcases h with h | ⟨g',h,rfl⟩
  ·rw [hb] at h; cases h
  ·rw [hb] at h; injection h with h; subst h; rfl
theorem Inv.nest {w S inj f b k o k' l} (hi:Inv w S inj f) (hb:f b=.nest k o k' l):∃ v g fp,inj b=.nest v g fp∧qiq w S k o k' none l v g fp:=by
 have:=hi.live b
 rw [hb] at this
 exact this
theorem Inv.hole {w S inj f b k o k' i l} (hi:Inv w S inj f) (hb:f b=.hole k o k' i l):∃ v g fp,inj b=.nest v g fp∧qiq w S k o k' (some i) l v g fp:=by
 have:=hi.live b
 rw [hb] at this
 exact this
theorem VR.ownw {w S inj b v v' g} (h:VR w S inj (.own b) v) (hb:(inj b).val=some (v',g)):v=v':=by
 cases h with
 | own h =>
  rcases h with h | ⟨g',h⟩
  ·rw [h] at hb; cases hb
  ·rw [hb] at h; injection h with h; injection h with h _; exact h.symm
theorem VR.ownv {w S inj b v v' g} (h:VR w S inj (.own b) v) (hb:inj b=.row v' g):v=v':=h.ownw (by rw [hb]; rfl)
theorem VR.epv {w S inj b k i o v} (h:VR w S inj (.ep b k i o) v) (hb:inj b≠.dead):∃ g n c,(inj b).val=some (.slice (some ⟨g,0,none⟩) n c,some g)∧v=.pointer (some ⟨g,i * k + o,none⟩):=by
 cases h with
 | ep h =>
  rcases h with h | ⟨g',n,c,h,rfl⟩
  ·exact absurd h hb
  ·exact ⟨g',n,c,h,rfl⟩
theorem qrm {x:Operand} {b p:Nat} (ho:o.op=.nilCheck x) (h:match look σ b with | .box _=>K (.one (.ptr b p)) [] [] [b] | _=>False) (hx:opd t x=.one (.ptr b p)):qM P t σ nx o K:=by
 split at h
 ·rename_i cs hb
  refine qab h fun a f w S inj hop hf hi=>?_
  have hv:=hop x (by simp [ho,Op.operands])
  rw [hx] at hv
  obtain ⟨g,vs,e,hg,_⟩:=hi.box ((hf b (by simp)).trans hb)
  have he:=(hv.cellv (by simp)).ptrv hg
  rw [he] at hv
  exact ⟨_,by unfold execOp; simp [ho,he],hv⟩
 ·exact h.elim
theorem quA {x : Operand} {b k i p : Nat} (ho : o.op = .nilCheck x) (h : match look σ b with
      | .rows k' l => qw (lenB l i && Nat.beq k k') (K (.one (.ep b k i p)) [] [] [b]) False
      | .nest k' _ _ l => qw (lenB l i && Nat.beq k k') (K (.one (.ep b k i p)) [] [] [b]) False
      | .hole k' _ _ _ l => qw (lenB l i && Nat.beq k k') (K (.one (.ep b k i p)) [] [] [b]) False
      | _ => False) (hx : opd t x = .one (.ep b k i p)) : qM P t σ nx o K := by
  have key : K (.one (.ep b k i p)) [] [] [b] → (∀ {w S inj f}, Inv w S inj f → f b = look σ b → inj b ≠ .dead) → qM P t σ nx o K := fun h hd =>
    qab h fun a f w S inj hop hf hi => by
      have hv := hop x (by simp [ho, Op.operands])
      rw [hx] at hv
      obtain ⟨g', n, c, _, he⟩ := (hv.cellv (by simp)).epv (hd hi (hf b (by simp)))
      rw [he] at hv
      exact ⟨_, by unfold execOp; simp [ho, he], hv⟩
  split at h
  · rename_i k' l hb
    rw [qL] at h
    rcases h with ⟨_, h⟩ | ⟨_, h⟩
    · exact key h fun hi hf => by obtain ⟨v, g, hg, _⟩ := hi.rows (hf.trans hb); rw [hg]; simp
    · exact h.elim
  · rename_i k' _ _ l hb
    rw [qL] at h
    rcases h with ⟨_, h⟩ | ⟨_, h⟩
    · exact key h fun hi hf => by obtain ⟨v, g, fp, hg, _⟩ := hi.nest (hf.trans hb); rw [hg]; simp
    · exact h.elim
  · rename_i k' _ _ _ l hb
    rw [qL] at h
    rcases h with ⟨_, h⟩ | ⟨_, h⟩
    · exact key h fun hi hf => by obtain ⟨v, g, fp, hg, _⟩ := hi.hole (hf.trans hb); rw [hg]; simp
    · exact h.elim
  · exact h.elim
theorem qnn {x:Operand} (ho:o.op=.nilCheck x) (h:qaJ T t σ nx (.nilCheck x) K):qM P t σ nx o K:=by
 have hmem:x∈o.op.operands:=by simp [ho,Op.operands]
 dsimp only [qaJ] at h
 have key:∀ c,c≠.junk→opd t x=.one c→K (.one c) [] [] []→(∀ {w S inj v},VR w S inj c v→∀ o:Oper,o.op=.nilCheck x→∀ a:Act,a.eval x=v→(execOp a.eval o).run P w=.ok (.value v) w)→qM P t σ nx o K :=
  fun c hj hx hk hrun=>qab hk fun a f w S inj hop hf hi=>by
   have hv:=hop x hmem
   rw [hx] at hv
   exact ⟨_,hrun (hv.cellv hj) o ho a rfl,hv⟩
 split at h
 ·rename_i b p hx
  exact qrm ho h hx
 ·rename_i cs hx
  refine key _ (by simp) hx h fun {w S inj v} hv o ho a ha=>?_
  cases hv with | rp vals hg hc hp=>unfold execOp; simp [ho,ha]
 ·rename_i b k i p hx
  exact quA ho h hx
 ·rename_i f l hx
  refine key _ (by simp) hx h fun {w S inj v} hv o ho a ha=>?_
  cases hv with | fn hf=>unfold execOp; simp [ho,ha]
 ·rename_i f l hx
  refine key _ (by simp) hx h fun {w S inj v} hv o ho a ha=>?_
  cases hv with | pf hf=>unfold execOp; simp [ho,ha]
 ·exact h.elim
theorem qp9 {x:Operand} {i:Nat} (ho:o.op=.extract x i) (h:qaJ T t σ nx (.extract x i) K):qM P t σ nx o K:=by
 have hmem:x∈o.op.operands:=by simp [ho,Op.operands]
 dsimp only [qaJ] at h
 split at h
 ·rename_i l hx
  split at h
  ·rename_i b r hl
   refine qab h fun a f w S inj hop hf hi=>?_
   have hv:=hop x hmem
   rw [hx] at hv
   rw [qa6] at hl
   have hg:l[i]?=some b:=by have:=congrArg (·[0]?) hl; simpa using this
   generalize he:a.eval x=v at hv
   cases hv with
   | one h=>cases h
   | @tup _ vs hf2 =>
    obtain ⟨v',hv',hr⟩:=hf2.get hg
    refine ⟨v',?_,.one hr⟩
    unfold execOp
    simp [ho,Instr.extract,he,hv']
  ·exact h.elim
 ·exact h.elim
theorem qN (g p n:Nat):(⟨g,p,none⟩:Addr).add n=⟨g,p + n,none⟩:=by unfold Addr.add; split<;>simp_all
theorem qfs {P t i o n x} {fs:List (Nat × Nat)} (hd:(ty T t).d=.struct fs) (h:qgT T t i=some (o,n)) (hI:InfoOk P t x) (hx:x=ty T t) :
  ∃ (fields:Array Field) (fd:Field),P.underlying t=some (.struct fields)∧fields[i]?=some fd∧fd.offset=o∧n=(ty T fd.type).sz∧(∃ r,fs.drop i=(o,fd.type)::r):=by
 subst hx
 have hD:=hI.d
 unfold qgT at h
 rw [hd] at h
 rw [hd] at hD
 obtain ⟨fields,hu,hm⟩:=hD
 simp only [qa6] at h
 split at h
 ·rename_i o' f' r hr
  simp at h
  obtain ⟨rfl,rfl⟩:=h
  have hg:fs[i]?=some (o',f'):=by have:=congrArg (·[0]?) hr; simpa using this
  rw [←hm] at hg
  simp at hg
  obtain ⟨fd,hfd,h1,h2⟩:=hg
  exact ⟨fields,fd,hu,hfd,h1,by rw [h2],⟨r,by rw [hr,h2]⟩⟩
 ·cases h
theorem qkp {P:Program} {T:List TI} (hT:TOk P T) {s i oo n:Nat} (hp:qgT T s i=some (oo,n)) (hn:n≠0) {fs} (hd:(ty T s).d=.struct fs) {g p:Nat} (w:World) :
  (Instr.fieldAt s (.pointer (some ⟨g,p,none⟩)) i).run P w=.ok (.pointer (some ⟨g,p + oo,none⟩)) w:=by
 have hI:=(hT s).desc (by rw [hd]; simp)
 obtain ⟨fields,fd,hu,hf,h1,h2,_⟩:=qfs hd hp hI rfl
 have hs:=((hT fd.type).known (by rw [←h2]; exact hn)).size w
 rw [←h2] at hs
 simp [Instr.fieldAt,run_underlying hu,hf,Instr.sureAddr,fieldPlace,hs,hn,qN,h1]
theorem qlD (hT:TOk P T) {s i:Nat} {x:Operand} (ho:o.op=.fieldAddr s x i) (h:qaJ T t σ nx (.fieldAddr s x i) K):qM P t σ nx o K:=by
 dsimp only [qaJ] at h
 split at h
 ·rename_i fs oo n hd hp
  rw [qL] at h
  rcases h with ⟨_,h⟩ | ⟨hn,h⟩
  ·exact h.elim
  have hn:n≠0:=fun e=>by subst e; simp at hn
  have hmem:x∈o.op.operands:=by simp [ho,Op.operands]
  have hrun:∀ (a:Act) (w:World) (g p:Nat),a.eval x=.pointer (some ⟨g,p,none⟩)→(execOp a.eval o).run P w=.ok (.value (.pointer (some ⟨g,p + oo,none⟩))) w:=fun a w g p he=>by
   unfold execOp; simp [ho,he,qkp hT hp hn hd]
  split at h
  ·rename_i b p hx
   split at h
   ·rename_i cs hb
    refine qab h fun a f w S inj hop hf hi=>?_
    have hv:=hop x hmem
    rw [hx] at hv
    obtain ⟨g,vs,e,hg,_⟩:=hi.box ((hf b (by simp)).trans hb)
    exact ⟨_,hrun a w g p ((hv.cellv (by simp)).ptrv hg),.ofc (.ptr (.inr ⟨g,hg,rfl⟩))⟩
   ·exact h.elim
  ·rename_i b k i p hx
   have key:K (.one (.ep b k i (p + oo))) [] [] [b]→(∀ {w S inj f},Inv w S inj f→f b=look σ b→inj b≠.dead)→qM P t σ nx o K:=fun h hd =>
    qab h fun a f w S inj hop hf hi=>by
     have hv:=hop x hmem
     rw [hx] at hv
     obtain ⟨g',n,c,hg',he⟩:=(hv.cellv (by simp)).epv (hd hi (hf b (by simp)))
     exact ⟨_,hrun a w _ _ he,.ofc (.ep (.inr ⟨g',n,c,hg',by rw [Nat.add_assoc]⟩))⟩
   split at h
   ·rename_i k' l hb
    rw [qL] at h
    rcases h with ⟨_,h⟩ | ⟨_,h⟩
    ·exact key h fun hi hf=>by obtain ⟨v,g,hg,_⟩:=hi.rows (hf.trans hb); rw [hg]; simp
    ·exact h.elim
   ·rename_i k' _ _ l hb
    rw [qL] at h
    rcases h with ⟨_,h⟩ | ⟨_,h⟩
    ·exact key h fun hi hf=>by obtain ⟨v,g,fp,hg,_⟩:=hi.nest (hf.trans hb); rw [hg]; simp
    ·exact h.elim
   ·rename_i k' _ _ _ l hb
    rw [qL] at h
    rcases h with ⟨_,h⟩ | ⟨_,h⟩
    ·exact key h fun hi hf=>by obtain ⟨v,g,fp,hg,_⟩:=hi.hole (hf.trans hb); rw [hg]; simp
    ·exact h.elim
   ·exact h.elim
  ·rename_i cs hx
   refine qab h fun a f w S inj hop hf hi=>?_
   have hv:=hop x hmem
   rw [hx] at hv
   generalize he:a.eval x=v at hv
   have hv:=hv.cellv (by simp)
   cases hv with
   | @rp _ g p vals hg hc hp' =>
    refine ⟨_,hrun a w g p he,.ofc (.rp (fun j=>vals (oo + j)) hg (fun j hj=>?_) (fun j c hj=>?_))⟩
    ·rw [qa6] at hj
     have:=hc (oo + j) (by simp at hj; omega)
     rwa [Nat.add_assoc]
    ·rw [qa6] at hj
     exact hp' (oo + j) c (by simpa using hj)
  ·exact h.elim
 ·exact h.elim
end Go.Proofs.YtidkmoohgadjkaaGreat.E
namespace Go.Proofs.YtidkmoohgadjkaaGreat.E
open Go
variable {P:Program} {T:List TI} {t:List A} {σ:List Blk} {nx:Nat} {o:Oper} {K:Kont}
theorem InfoOk.agg {P t x} (h:InfoOk P t x) (w:World):(Go.isAgg t).run P w=.ok (Go.Proofs.YtidkmoohgadjkaaGreat.E.isAgg x.d) w:=by
 have hd:=h.d
 have hk:=h.kn
 unfold Go.isAgg
 cases hx:x.d<;>rw [hx] at hd hk<;>simp only [DescOk] at hd
 case struct fs=>obtain ⟨fields,hu,_⟩:=hd; simp [run_underlying hu,isAgg]
 case iface=>obtain ⟨ms,hu⟩:=hd; simp [run_underlying hu,isAgg]
 case other=>exact absurd rfl hk
 all_goals simp [run_underlying hd,isAgg]
theorem qgG {x:TI} {s:Nat} (hI:InfoOk P s x) {w:World} {g p:Nat} {vs:List Value} (hlen:vs.length=x.sz)
  (hc:∀ j u,vs[j]?=some u→w.cell? ⟨g,p + j,none⟩=some u) :
  (isAgg x.d=true→(loadVar s ⟨g,p,none⟩).run P w=.ok (.agg vs.toArray) w)∧(isAgg x.d=false→∀ u,vs=[u]→(loadVar s ⟨g,p,none⟩).run P w=.ok u w):=by
 constructor
 ·intro ha
  have hl:(loadCells ⟨g,p,none⟩ vs.length).run P w=.ok vs.toArray w :=
   run_loadCells_list (P:=P) w ⟨g,p,none⟩ vs (fun j v hv=>by rw [qN]; exact hc j v hv)
  rw [hlen] at hl
  simp [loadVar,hI.agg,hI.size,ha,hl]
 ·intro ha u hu
  subst hu
  have:=hc 0 u rfl
  simp only [Nat.add_zero] at this
  simp [loadVar,hI.agg,ha,this]
theorem qe5 {x:TI} {s:Nat} (hI:InfoOk P s x) {cs:List C} {Kc:A→Prop} (h:cellsOf (isAgg x.d) cs Kc):∃ v,Kc v ∧
  ∀ {w S inj g p vs},F2 (VR w S inj) cs vs→cs.length=x.sz→(∀ j u,vs[j]?=some u→w.cell? ⟨g,p + j,none⟩=some u) →
   ∃ v',(loadVar s ⟨g,p,none⟩).run P w=.ok v' w∧VA w S inj v v':=by
 cases ha:isAgg x.d with
 | true =>
  rw [ha] at h
  refine ⟨_,h,fun {w S inj g p vs} hf hl hc=>⟨_,(qgG hI (by rw [←hf.len,hl]) hc).1 ha,.one (.agg hf)⟩⟩
 | false =>
  rw [ha] at h
  have h':(fun cs:List C=>(match cs with | [c]=>Kc (.one c) | _=>False:Prop)) cs:=h
  clear h
  simp only at h'
  split at h'
  ·rename_i c
   refine ⟨_,h',fun {w S inj g p vs} hf hl hc=>?_⟩
   cases hf with
   | cons hv hn =>
    cases hn
    exact ⟨_,(qgG hI (by simpa using hl) hc).2 ha _ rfl,.ofc hv⟩
  ·exact h'.elim
theorem qdI {T:List TI} {s:Nat} (hT:TOk P T) {cs:List C} {Kc:A→Prop} (h:cellsOf (isAgg (ty T s).d) cs Kc) (hl:cs.length=(ty T s).sz):InfoOk P s (ty T s):=by
 rcases hT s with he | hI
 ·rw [he] at h hl
  simp [TI.none] at hl
  subst hl
  exact h.elim
 ·exact hI
theorem qgj {w S k l v g} (h:RowOk w S k l v g) (hne:l≠[]):∃ g' cap cur e,0 < k∧g=some g'∧v=.slice (some ⟨g',0,none⟩) l.length cap∧¬ S.all g'∧w.heap[g']?=some (.cells cur e (0,0))∧l.length≤cap∧cap≤maxLen∧cur.size=cap * k ∧
  (∀ r∈l,r.length=k)∧F2 (PR w S) l.flatten (cur.toList.take (l.length * k)):=by
 rcases h with ⟨h,_⟩ | h
 ·exact absurd h hne
 ·exact h
theorem qft {α:Type} {l:List (List α)} {k:Nat} (hk:∀ r∈l,r.length=k):∀ {i j:Nat} {r:List α},l[i]?=some r→j < k→l.flatten[i * k + j]?=r[j]?:=by
 induction l with
 | nil=>intro i j r h; simp at h
 | cons a l ih =>
  intro i j r h hj
  have ha:=hk a (by simp)
  cases i with
  | zero =>
   simp at h; subst h
   rw [List.flatten_cons,Nat.zero_mul,Nat.zero_add,List.getElem?_append_left (by omega)]
  | succ i =>
   simp at h
   rw [List.flatten_cons,List.getElem?_append_right (by rw [ha,Nat.add_mul]; omega),ha,show (i + 1) * k + j - k=i * k + j from by rw [Nat.add_mul]; omega]
   exact ih (fun r hr=>hk r (by simp [hr])) h hj
theorem qaG {α:Type} {l:List (List α)} {k:Nat} (hk:∀ r∈l,r.length=k):l.flatten.length=l.length * k:=by
 induction l with
 | nil=>simp
 | cons a l ih=>rw [List.flatten_cons,List.length_append,ih (fun r hr=>hk r (by simp [hr])),hk a (by simp),List.length_cons,Nat.add_mul]; omega
theorem qdV {l:List (List PC)} {j:Int} (h:lenB l j=true):0≤j∧l[j.toNat]?=some (rowAt l j):=by
 unfold lenB at h
 unfold rowAt
 simp at h
 refine ⟨h.1,?_⟩
 rw [List.getElem?_eq_getElem (by omega),List.getD_eq_getElem?_getD,List.getElem?_eq_getElem (by omega)]
 rfl
theorem qgV {n i j:Nat} (h:(List.range n)[i]?=some j):i < n∧j=i:=by
 obtain ⟨h1,h2⟩:=List.getElem?_eq_some_iff.1 h
 simp at h1 h2
 exact ⟨h1,h2.symm⟩
theorem qrn (hT:TOk P T) {s:Nat} {x:Operand} (ho:o.op=.load s x) (h:qlz T σ s (opd t x) K):qM P t σ nx o K:=by
 have hmem:x∈o.op.operands:=by simp [ho,Op.operands]
 have hrun:∀ (a:Act) (w:World) (g p:Nat) v',a.eval x=.pointer (some ⟨g,p,none⟩)→(loadVar s ⟨g,p,none⟩).run P w=.ok v' w→(execOp a.eval o).run P w=.ok (.value v') w:=fun a w g p v' he hr=>by
  unfold execOp; simp [ho,he,Instr.loadAt,Instr.sureAddr,hr]
 unfold qlz at h
 split at h
 ·rename_i b p hx
  split at h
  ·rename_i cs hb
   rw [qL] at h
   rcases h with ⟨hle,h⟩ | ⟨_,h⟩
   ·have hle:=Nat.le_of_ble_eq_true hle
    rw [qah] at hle
    have hlen:(qfK (qeq cs p) (ty T s).sz).length=(ty T s).sz:=by simp; omega
    obtain ⟨v,hk,hok⟩:=qe5 (qdI hT h hlen) h
    refine qab hk fun a f w S inj hop hf hi=>?_
    have hv:=hop x hmem
    rw [hx] at hv
    obtain ⟨g,vs,e,hg,hs,hh,hvs⟩:=hi.box ((hf b (by simp)).trans hb)
    have he:=(hv.cellv (by simp)).ptrv hg
    obtain ⟨v',hr,hv'⟩:=hok (g:=g) (p:=p) (vs:=(vs.drop p).take (ty T s).sz) (by rw [qeQ,qa6]; exact (hvs.drop _).take _) hlen (fun j u hj=>by
     rw [List.getElem?_take] at hj
     split at hj
     ·rw [List.getElem?_drop] at hj
      simpa [World.cell?,hh] using hj
     ·cases hj)
    exact ⟨v',hrun a w g p v' he hr,hv'⟩
   ·exact h.elim
  ·exact h.elim
 ·rename_i cs hx
  rw [qL] at h
  rcases h with ⟨hle,h⟩ | ⟨_,h⟩
  ·have hle:=Nat.le_of_ble_eq_true hle
   rw [qah] at hle
   have hlen:(mapR C.p (qfK cs (ty T s).sz)).length=(ty T s).sz:=by simp; omega
   obtain ⟨v,hk,hok⟩:=qe5 (qdI hT h hlen) h
   refine qab hk fun a f w S inj hop hf hi=>?_
   have hv:=hop x hmem
   rw [hx] at hv
   generalize he:a.eval x=u at hv
   have hv:=hv.cellv (by simp)
   cases hv with
   | @rp _ g p vals hg hc hp =>
    obtain ⟨v',hr,hv'⟩:=hok (w:=w) (S:=S) (inj:=inj) (g:=g) (p:=p) (vs:=(List.range (ty T s).sz).map vals) (F2.of_get (by simp; omega) (fun i a b ha hb=>by
      rw [qay,qeQ,List.getElem?_map,Option.map_eq_some_iff] at ha
      rw [List.getElem?_map,Option.map_eq_some_iff] at hb
      obtain ⟨c,hc',rfl⟩:=ha
      obtain ⟨i',hi',rfl⟩:=hb
      obtain ⟨hi1,hi2⟩:=qgV hi'
      subst hi2
      rw [List.getElem?_take,if_pos hi1] at hc'
      exact .p (hp _ c hc'))) hlen (fun j u hj=>by
     rw [List.getElem?_map,Option.map_eq_some_iff] at hj
     obtain ⟨j',hj1,rfl⟩:=hj
     obtain ⟨hj2,hj3⟩:=qgV hj1
     subst hj3
     exact hc _ (by omega))
    exact ⟨v',hrun a w g p v' he hr,hv'⟩
  ·exact h.elim
 ·rename_i b k i p hx
  split at h
  ·rename_i k' l hb
   rw [qL] at h
   rcases h with ⟨hkk,h⟩ | ⟨_,h⟩
   ·simp only [Bool.and_eq_true] at hkk
    have hk':=Nat.eq_of_beq_eq_true hkk.2
    subst hk'
    obtain ⟨_,hrow⟩:=qdV hkk.1
    rw [qgF,qL] at h
    rcases h with ⟨hle,h⟩ | ⟨_,h⟩
    ·have hle:=Nat.le_of_ble_eq_true hle
     rw [qah] at hle
     have hlen:(mapR C.p (qfK (qeq (rowAt l i) p) (ty T s).sz)).length=(ty T s).sz:=by simp; omega
     obtain ⟨v,hk,hok⟩:=qe5 (qdI hT h hlen) h
     refine qab hk fun a f w S inj hop hf hi=>?_
     have hv:=hop x hmem
     rw [hx] at hv
     obtain ⟨v0,g0,hg0,hro⟩:=hi.rows ((hf b (by simp)).trans hb)
     obtain ⟨g,n,c,hg,he⟩:=(hv.cellv (by simp)).epv (by rw [hg0]; simp)
     rw [hg0] at hg; injection hg with hg; injection hg with e1 e2; subst e1; subst e2
     obtain ⟨g',cap,cur,e,hk0,e3,e4,hs,hh,hcap,hmax,hsz,hrl,hfl⟩:=qgj hro (by rintro rfl; simp at hrow)
     injection e3 with e3; subst e3
     have hin:l[i]?=some (rowAt l i):=by simpa using hrow
     have hil:i < l.length:=by
      rcases Nat.lt_or_ge i l.length with h | h
      ·exact h
      ·rw [List.getElem?_eq_none h] at hin; cases hin
     have hrk:(rowAt l i).length=k:=hrl _ (List.mem_of_getElem? hin)
     have hbound:∀ j,j < k→i * k + j < l.length * k:=fun j hj=>by
      have:(i + 1) * k≤l.length * k:=Nat.mul_le_mul_right _ hil
      rw [Nat.add_mul] at this; omega
     obtain ⟨v',hr,hv'⟩:=hok (w:=w) (S:=S) (inj:=inj) (g:=g) (p:=i * k + p) (vs:=(cur.toList.drop (i * k + p)).take (ty T s).sz) (F2.of_get (by
       rw [hlen]; simp
       have:l.length * k≤cap * k:=Nat.mul_le_mul_right _ hcap
       have:=hbound (k - 1) (by omega)
       omega) (fun j a b ha hb'=>by
       rw [qay,qeQ,qa6,List.getElem?_map,Option.map_eq_some_iff] at ha
       obtain ⟨c',hc',rfl⟩:=ha
       rw [List.getElem?_take] at hc' hb'
       split at hc'
       ·rename_i hj
        rw [if_pos hj] at hb'
        rw [List.getElem?_drop] at hc' hb'
        have hfg:=qft hrl hin (j:=p + j) (by omega)
        rw [hc'] at hfg
        obtain ⟨u,hu,hpr⟩:=hfl.get hfg
        rw [List.getElem?_take,if_pos (hbound _ (by omega))] at hu
        rw [←Nat.add_assoc] at hu
        rw [hu] at hb'; injection hb' with hb'; subst hb'
        exact .p hpr
       ·cases hc')) hlen (fun j u hj=>by
       rw [List.getElem?_take] at hj
       split at hj
       ·rw [List.getElem?_drop] at hj
        simpa [World.cell?,hh] using hj
       ·cases hj)
     exact ⟨v',hrun a w g _ v' he hr,hv'⟩
    ·exact h.elim
   ·exact h.elim
  ·rename_i k' q k2 l hb
   rw [qL] at h
   rcases h with ⟨hkk,h⟩ | ⟨_,h⟩
   ·simp only [Bool.and_eq_true] at hkk
    have hk':=Nat.eq_of_beq_eq_true hkk.2
    subst hk'
    obtain ⟨_,hrow⟩:=qdV hkk.1
    rw [qgF,qL] at h
    rcases h with ⟨hle,h⟩ | ⟨_,h⟩
    ·simp only [Bool.and_eq_true,Bool.or_eq_true] at hle
     obtain ⟨hle,hoff⟩:=hle
     have hle:=Nat.le_of_ble_eq_true hle
     have hoff:q + 1≤p∨p + (ty T s).sz≤q:=hoff.imp Nat.le_of_ble_eq_true Nat.le_of_ble_eq_true
     rw [qah] at hle
     have hlen:(mapR C.p (qfK (qeq (rowAt l i) p) (ty T s).sz)).length=(ty T s).sz:=by simp; omega
     obtain ⟨v,hk,hok⟩:=qe5 (qdI hT h hlen) h
     refine qab hk fun a f w S inj hop hf hi=>?_
     have hv:=hop x hmem
     rw [hx] at hv
     obtain ⟨v0,g0,fp,hg0,cap,cur,e,ins,hn⟩:=hi.nest ((hf b (by simp)).trans hb)
     obtain ⟨g,n,c,hg,he⟩:=(hv.cellv (by simp)).epv (by rw [hg0]; simp)
     rw [hg0] at hg; injection hg with hg; injection hg with e1 e2; injection e2 with e2; subst e2
     have hin:l[i]?=some (rowAt l i):=by simpa using hrow
     have hrk:(rowAt l i).length=k:=hn.row _ (List.mem_of_getElem? hin)
     have hil:i < l.length:=(List.getElem?_eq_some_iff.1 hin).1
     have hbound:i * k + k≤cur.size:=by
      have h1:(i + 1) * k≤l.length * k:=Nat.mul_le_mul_right _ hil
      have h2:l.length * k≤cap * k:=Nat.mul_le_mul_right _ hn.le
      rw [Nat.add_mul] at h1; rw [hn.size]; omega
     obtain ⟨v',hr,hv'⟩:=hok (w:=w) (S:=S) (inj:=inj) (g:=g0) (p:=i * k + p) (vs:=(cur.toList.drop (i * k + p)).take (ty T s).sz) (F2.of_get (by
       rw [hlen]; simp; omega) (fun j a b ha hb'=>by
       rw [qay,qeQ,qa6,List.getElem?_map,Option.map_eq_some_iff] at ha
       obtain ⟨c',hc',rfl⟩:=ha
       rw [List.getElem?_take] at hc' hb'
       split at hc'
       ·rename_i hj
        rw [if_pos hj] at hb'
        rw [List.getElem?_drop] at hc' hb'
        obtain ⟨u,hu,_,hpr,_⟩:=hn.at_ i _ hin (p + j) c' hc'
        rw [←Nat.add_assoc,←Array.getElem?_toList] at hu
        rw [hu] at hb'; injection hb' with hb'; subst hb'
        exact .p (hpr (by omega))
       ·cases hc')) hlen (fun j u hj=>by
       rw [List.getElem?_take] at hj
       split at hj
       ·rw [List.getElem?_drop] at hj
        simpa [World.cell?,hn.heap] using hj
       ·cases hj)
     exact ⟨v',hrun a w g0 _ v' he hr,hv'⟩
    ·exact h.elim
   ·exact h.elim
  ·exact h.elim
 ·exact h.elim
end Go.Proofs.YtidkmoohgadjkaaGreat.E
namespace Go.Proofs.YtidkmoohgadjkaaGreat.E
open Go
variable {P:Program} {T:List TI} {t:List A} {σ:List Blk} {nx:Nat} {o:Oper} {K:Kont}
def SB (S:Zone) (inj:Nat→Loc) (bs:List Nat):Zone:=⟨fun g=>S g∨∃ b,b∈bs∧(inj b).blk g,S.fr⟩
theorem qro {w S inj bs}:Grow w S w (SB S inj bs):=⟨rfl,rfl,rfl,Nat.le_refl _,fun _ _=>rfl,fun _ h=>.inl h,rfl⟩
theorem PR.sub {w S S' c v} (h:PR w S c v) (hs:∀ g,S g→S' g):PR w S' c v:=by
 induction h with
 | v hf=>exact .v hf
 | @sl rows base cap k vals hcap hk hrow hb hc hv ih =>
  exact .sl vals hcap hk hrow (hb.imp id fun ⟨g,o,e,h⟩=>⟨g,o,e,hs g h⟩) hc ih
theorem RowOk.pure {w S k l v g} (h:RowOk w S k l v g) {S':Zone} (hs:∀ g,S g→S' g) (hg:∀ g',g=some g'→S' g'):PR w S' (.sl l) v:=by
 rcases h with ⟨rfl,rfl,a,rfl⟩ | ⟨g',cap,cur,e,hk,rfl,rfl,_,hh,hcap,hmax,hsz,hrl,hfl⟩
 ·exact .sl (k:=1) (fun _ _=>.nilFunc) (Nat.le_refl _) (by omega) (by simp) (.inl rfl) (fun g o _ i j hi=>by simp at hi) (fun i j r c hr=>by simp at hr)
 ·have hb:∀ {i j:Nat},i < l.length→j < k→i * k + j < l.length * k∧i * k + j < cur.size:=fun {i j} hi hj=>by
   have:(i + 1) * k≤l.length * k:=Nat.mul_le_mul_right _ hi
   have:=Nat.mul_le_mul_right k hcap
   rw [Nat.add_mul] at *; omega
  refine .sl (k:=k) (fun i j=>cur.getD (i * k + j) .nilFunc) hcap hk hrl (.inr ⟨g',0,rfl,hg _ rfl⟩) (fun g o e i j hi hj=>?_) (fun i j r c hr hc=>?_)
  ·injection e with e; injection e with e1 e2; subst e1; subst e2
   have:=(hb hi hj).2
   rw [Nat.zero_add]
   simp [World.cell?,hh,this]
  ·have hi:i < l.length:=by
    rcases Nat.lt_or_ge i l.length with h | h
    ·exact h
    ·rw [List.getElem?_eq_none h] at hr; cases hr
   have hj:j < k:=by
    rw [←hrl _ (List.mem_of_getElem? hr)]
    rcases Nat.lt_or_ge j r.length with h | h
    ·exact h
    ·rw [List.getElem?_eq_none h] at hc; cases hc
   have hf:=qft hrl hr hj
   rw [hc] at hf
   obtain ⟨u,hu,hp⟩:=hfl.get hf
   rw [List.getElem?_take,if_pos (hb hi hj).1] at hu
   have:cur.getD (i * k + j) .nilFunc=u:=by
    rw [Array.getD_eq_getD_getElem?]
    rw [Array.getElem?_toList] at hu
    rw [hu]; rfl
   rw [this]
   exact hp.sub hs
theorem Nest.pure {w S k o k' l v g fp cap cur e ins} (h:Nest w S k o k' none l v g fp cap cur e ins) {S':Zone} (hs:∀ g,S g→S' g) (hg:S' g) (hfp:∀ x,fp x→S' x):PR w S' (.sl l) v:=by
 have hk:0 < k:=Nat.lt_of_le_of_lt (Nat.zero_le _) h.ok
 have hb:∀ {i j:Nat},i < l.length→j < k→i * k + j < cur.size:=fun {i j} hi hj=>by
  have h1:(i + 1) * k≤l.length * k:=Nat.mul_le_mul_right _ hi
  have h2:=Nat.mul_le_mul_right k h.le
  rw [Nat.add_mul] at h1; rw [h.size]; omega
 rw [h.val]
 refine .sl (k:=k) (fun i j=>cur.getD (i * k + j) .nilFunc) h.le hk h.row (.inr ⟨g,0,rfl,hg⟩) (fun g' o' e' i j hi hj=>?_) (fun i j r c hr hc=>?_)
 ·injection e' with e'; injection e' with e1 e2; subst e1; subst e2
  have:=hb hi hj
  rw [Nat.zero_add]
  simp [World.cell?,h.heap,this]
 ·obtain ⟨u,hu,_,h3,h4⟩:=h.at_ i r hr j c hc
  have:cur.getD (i * k + j) .nilFunc=u:=by
   rw [Array.getD_eq_getD_getElem?,hu]; rfl
  rw [this]
  by_cases hj:j=o
  ·obtain ⟨m,rfl,hro⟩:=h4 hj (by simp)
   exact hro.pure hs fun x hx=>hfp x ((h.fpi x).2 ⟨i,(List.getElem?_eq_some_iff.1 hr).1,by simp,hx⟩)
  ·exact (h3 hj).sub hs
theorem qoz {c:C} {Kc:List (List PC)→List Nat→Prop} (h:qly σ c Kc):∃ l bs,Kc l bs∧∀ {w S inj f v},Inv w S inj f→(∀ b,b∈bs→f b=look σ b)→VR w S inj c v→PR w (SB S inj bs) (.sl l) v:=by
 unfold qly at h
 split at h
 ·refine ⟨_,_,h,fun {w S inj f v} hi hf hv=>?_⟩
  cases hv with | p hp=>exact hp.sub fun _ h=>.inl h
 ·refine ⟨_,_,h,fun {w S inj f v} hi hf hv=>?_⟩
  rw [hv.nilv]
  exact .sl (k:=1) (fun _ _=>.nilFunc) (Nat.le_refl _) (by omega) (by simp) (.inl rfl) (fun g o _ i j hi=>by simp at hi) (fun i j r c hr=>by simp at hr)
 ·rename_i b
  split at h
  ·rename_i k l hb
   refine ⟨_,_,h,fun {w S inj f v} hi hf hv=>?_⟩
   obtain ⟨v',g,hg,hr⟩:=hi.rows ((hf b (by simp)).trans hb)
   rw [hv.ownv hg]
   exact hr.pure (fun _ h=>.inl h) fun g' e=>.inr ⟨b,by simp,by rw [hg]; exact e⟩
  ·rename_i k o k' l hb
   refine ⟨_,_,h,fun {w S inj f v} hi hf hv=>?_⟩
   obtain ⟨v',g,fp,hg,cap,cur,e,ins,hn⟩:=hi.nest ((hf b (by simp)).trans hb)
   rw [hv.ownw (v':=v') (g:=some g) (by rw [hg]; rfl)]
   exact hn.pure (fun _ h=>.inl h) (.inr ⟨b,by simp,by rw [hg]; exact .inl rfl⟩) fun x hx=>.inr ⟨b,by simp,by rw [hg]; exact .inr hx⟩
  ·exact h.elim
 ·exact h.elim
theorem qwb {c:PC} {k:PC→Prop} (h:nzF c k):∃ c',k c'∧∀ {w S v},PR w S c v→PR w S c' v:=by
 unfold nzF at h
 split at h
 ·refine ⟨_,h,fun {w S v} hv=>?_⟩
  have hv':v=.slice none 0 0:=(VR.p (inj:=fun _=>.free) hv).nilv
  subst hv'
  exact .sl (k:=1) (fun _ _=>.nilFunc) (Nat.le_refl _) (by omega) (by simp) (.inl rfl) (fun g o _ i j hi=>by simp at hi) (fun i j r c hr=>by simp at hr)
 ·exact ⟨_,h,fun hv=>hv⟩
 ·exact ⟨_,h,fun hv=>hv⟩
theorem qrp {c:C} {k:C→Prop} (h:nzC c k):∃ c',k c'∧∀ {w S inj v},VR w S inj c v→VR w S inj c' v:=by
 unfold nzC at h
 split at h
 ·obtain ⟨c',h,hp⟩:=qwb h
  exact ⟨_,h,fun hv=>by cases hv with | p hv=>exact .p (hp hv)⟩
 ·exact ⟨_,h,fun hv=>hv⟩
theorem qkq {α β:Type} {f:α→(β→Prop)→Prop} {R:α→β→Prop} (hf:∀ a k,f a k→∃ b,k b∧R a b):∀ {l:List α} {k:List β→Prop},mapF f l k→∃ l',k l'∧F2 R l l'
 | [],k,h=>⟨[],h,.nil⟩
 | a::l,k,h=>by
  obtain ⟨b,h,hb⟩:=hf a _ h
  obtain ⟨l',h,hl⟩:=qkq hf h
  exact ⟨_,h,.cons hb hl⟩
theorem F2.comp {α β γ:Type} {R:α→β→Prop} {R':α→γ→Prop} {R'':β→γ→Prop} (hr:∀ {a b c},R a b→R' a c→R'' b c) {l:List α} {m:List β} (h:F2 R l m):∀ {n:List γ},F2 R' l n→F2 R'' m n:=by
 induction h with
 | nil=>intro n h'; cases h'; exact .nil
 | cons h _ ih=>intro n h'; cases h' with | cons h1 h2=>exact .cons (hr h h1) (ih h2)
theorem quB {k:C→Prop} (h:nzC .junk k):k .junk:=h
theorem qno {a:A} {k:A→Prop} (h:nzA1 a k):∃ a',k a'∧∀ {w S inj v},VA1 w S inj a v→VA1 w S inj a' v:=by
 unfold nzA1 at h
 split at h
 ·rename_i c
  by_cases hj:c=.junk
  ·subst hj
   exact ⟨_,quB h,fun hv=>hv⟩
  ·obtain ⟨c',h,hp⟩:=qrp h
   exact ⟨_,h,fun hv=>by cases hv with | one hv=>exact .one (hp hv) | junk=>exact absurd rfl hj⟩
 ·obtain ⟨l',h,hp⟩:=qkq (R:=fun c c'=>∀ {w S inj v},VR w S inj c v→VR w S inj c' v) (fun a k h=>qrp h) h
  exact ⟨_,h,fun hv=>by cases hv with | agg hv=>exact .agg (F2.comp (fun h h'=>h h') hp hv)⟩
 ·exact ⟨_,h,fun hv=>hv⟩
theorem qwc {a:A} {k:A→Prop} (h:nzA a k):∃ a',k a'∧∀ {w S inj v},VA w S inj a v→VA w S inj a' v:=by
 cases a with
 | one c =>
  obtain ⟨a',h,hp⟩:=qno (a:=.one c) h
  exact ⟨_,h,fun hv=>by cases hv with | one hv=>exact .one (hp hv)⟩
 | agg l =>
  obtain ⟨a',h,hp⟩:=qno (a:=.agg l) h
  exact ⟨_,h,fun hv=>by cases hv with | one hv=>exact .one (hp hv)⟩
 | tup l =>
  obtain ⟨l',h,hp⟩:=qkq (R:=fun c c'=>∀ {w S inj v},VA1 w S inj c v→VA1 w S inj c' v) (fun a k h=>qno h) h
  exact ⟨_,h,fun hv=>by
   cases hv with
   | one hv=>cases hv
   | tup hv=>exact .tup (F2.comp (fun h h'=>h h') hp hv)⟩
theorem qlE {c:C} {Kc:PC→List Nat→Prop} (h:toP σ c Kc):∃ p bs,Kc p bs∧(∀ b,b∈bs→look σ b≠.dead)∧∀ {w S inj f v},Inv w S inj f→(∀ b,b∈bs→f b=look σ b)→VR w S inj c v→PR w (SB S inj bs) p v:=by
 unfold toP at h
 split at h
 ·obtain ⟨c',h,hp'⟩:=qwb h
  refine ⟨_,_,h,by simp,fun {w S inj f v} hi hf hv=>?_⟩
  cases hv with | p hp=>exact (hp' hp).sub fun _ h=>.inl h
 ·rename_i b
  split at h
  ·rename_i k l hb
   refine ⟨_,_,h,by simp [hb],fun {w S inj f v} hi hf hv=>?_⟩
   obtain ⟨v',g,hg,hr⟩:=hi.rows ((hf b (by simp)).trans hb)
   rw [hv.ownv hg]
   exact hr.pure (fun _ h=>.inl h) fun g' e=>.inr ⟨b,by simp,by rw [hg]; exact e⟩
  ·rename_i k o k' l hb
   refine ⟨_,_,h,by simp [hb],fun {w S inj f v} hi hf hv=>?_⟩
   obtain ⟨v',g,fp,hg,cap,cur,e,ins,hn⟩:=hi.nest ((hf b (by simp)).trans hb)
   rw [hv.ownw (v':=v') (g:=some g) (by rw [hg]; rfl)]
   exact hn.pure (fun _ h=>.inl h) (.inr ⟨b,by simp,by rw [hg]; exact .inl rfl⟩) fun x hx=>.inr ⟨b,by simp,by rw [hg]; exact .inr hx⟩
  ·exact h.elim
 ·exact h.elim
theorem qis {S inj bs bs' g}:SB S inj bs g→SB S inj (bs++bs') g:=fun h=>h.imp id fun ⟨b,hb,e⟩=>⟨b,by simp [hb],e⟩
theorem qgH {S inj bs bs' g}:SB S inj bs' g→SB S inj (bs++bs') g:=fun h=>h.imp id fun ⟨b,hb,e⟩=>⟨b,by simp [hb],e⟩
theorem qkr (cs:List C):∀ {Kc:List PC→List Nat→Prop},toPs σ cs Kc→∃ ps bs,Kc ps bs∧ps.length=cs.length∧(∀ b,b∈bs→look σ b≠.dead)∧∀ {w S inj f vs},Inv w S inj f→(∀ b,b∈bs→f b=look σ b)→F2 (VR w S inj) cs vs→F2 (PR w (SB S inj bs)) ps vs:=by
 induction cs with
 | nil=>intro Kc h; exact ⟨[],[],h,rfl,by simp,fun _ _ hv=>by cases hv; exact .nil⟩
 | cons c cs ih =>
  intro Kc h
  change toP σ c (fun c bs=>toPs σ cs fun cs bs'=>Kc (c::cs) (appR bs bs')) at h
  obtain ⟨p,bs,h,hnd,hok⟩:=qlE h
  obtain ⟨ps,bs',h,hl,hnd',hok'⟩:=ih h
  rw [qa9] at h
  refine ⟨_,_,h,by simp [hl],fun b hb=>(List.mem_append.1 hb).elim (hnd b) (hnd' b),fun {w S inj f vs} hi hf hv=>?_⟩
  cases hv with
  | cons hv hvs =>
   exact .cons ((hok hi (fun b hb=>hf b (by simp [hb])) hv).sub fun _=>qis) ((hok' hi (fun b hb=>hf b (by simp [hb])) hvs).mono' fun _ _ h=>h.sub fun _=>qgH)
theorem bcF {b:Bool} {x:Prop} (h:qw b x False):b=true∧x:=by cases b; exact h.elim; exact ⟨rfl,h⟩
theorem qoA {f:Nat→Blk} {nx b:Nat} {B:Blk} {nw:List Blk} (hb:¬ (nx≤b∧b < nx + nw.length)):upd f nx [(b,B)] nw=setB (upd f nx [] nw) b B:=by
 funext c
 by_cases h:c=b
 ·subst h
  rw [qaa]
  unfold upd
  rw [if_neg hb]
  simp
 ·rw [qZ h]
  unfold upd
  by_cases h2:nx≤c∧c < nx + nw.length
  ·rw [if_pos h2,if_pos h2]
  ·rw [if_neg h2,if_neg h2]
   have:((b,B).1 == c)=false:=by simp; exact fun e=>h e.symm
   simp [List.find?_cons,this]
theorem qxx {f:Nat→Blk} {nx b:Nat} {nw:List Blk} (hb:¬ (nx≤b∧b < nx + nw.length)):upd f nx [] nw b=f b:=by
 unfold upd; rw [if_neg hb]; rfl
theorem Grow.setRow {w S g cs} (hs:¬ S.all g):Grow w S (w.setRow g cs) S:=⟨rfl,rfl,rfl,by simp,fun g' hg'=>setRow_other w g g' cs (by rintro rfl; exact hs hg'),fun _ h=>h,rfl⟩
theorem Inv.setRow {w S inj f b B g cs} (hi:Inv w S inj f) (hd:f b≠.dead) (hg:(inj b).blk g) (hB:BR (w.setRow g cs) S inj (inj b) B):Inv (w.setRow g cs) S inj (setB f b B):=by
 have hs:=((hi.live b).blk hd hg)
 refine hi.set (.setRow hs.1) (.refl _) (fun _ _=>rfl) rfl (fun b' g' hne hd' hg'=>?_) hB (fun _ b' g' hne hd' hg1 hg2=>?_) (fun g' hg'=>by simp; exact hi.lt g' hg')
 ·refine ⟨setRow_other w g g' cs ?_,((hi.live b').blk hd' hg').1⟩
  rintro rfl
  exact hne (hi.sep _ _ _ hd' hd hg' hg)
 ·exact hne (hi.sep _ _ _ hd' hd hg2 hg1)
theorem qfN {x:TI} {s:Nat} (hI:InfoOk P s x) {w:World} {g p:Nat} {val:Value} {vs:List Value} (hval:val.cells=vs.toArray) (hl:vs.length=x.sz)
  {cur:Array Value} {e:TypeId} (hh:w.heap[g]?=some (.cells cur e (0,0))) (hle:p + vs.length≤cur.size) (h1:∀ v∈vs,v.oneCell'=true) :
  (storeVar s ⟨g,p,none⟩ val).run P w=.ok () (w.setRow g (cur.toList.take p++vs++cur.toList.drop (p + vs.length)).toArray):=by
 have:=run_storeCells_at P g p e vs 0 cur w hh (by simpa using hle) h1
 simp only [Nat.add_zero] at this
 simp [storeVar,hval,hI.size,hl,this]
theorem quC {α:Type} {k p:Nat} {r ps:List α}:∀ (l:List (List α)) (i:Nat),(∀ r∈l,r.length=k)→l[i]?=some r→p + ps.length≤r.length →
  (l.set i (r.take p++ps++r.drop (p + ps.length))).flatten=l.flatten.take (i * k + p)++ps++l.flatten.drop (i * k + p + ps.length):=by
 intro l
 induction l with
 | nil=>intro i _ h; simp at h
 | cons a l ih =>
  intro i hk h hp
  have ha:=hk a (by simp)
  cases i with
  | zero =>
   simp at h; subst h
   simp only [List.set_cons_zero,List.flatten_cons,Nat.zero_mul,Nat.zero_add]
   rw [List.take_append_of_le_length (by omega),List.drop_append_of_le_length hp]
   simp
  | succ i =>
   simp at h
   simp only [List.set_cons_succ,List.flatten_cons]
   rw [ih i (fun r hr=>hk r (by simp [hr])) h hp]
   rw [show (i + 1) * k + p=a.length + (i * k + p) from by rw [ha,Nat.add_mul]; omega]
   rw [Nat.add_assoc a.length,List.take_length_add_append,List.drop_length_add_append]
   simp
theorem quD {α:Type} (cur us:List α) (X M:Nat) (h1:X + us.length≤M) (h2:M≤cur.length) :
  (cur.take X++us++cur.drop (X + us.length)).take M=((cur.take M).take X++us)++(cur.take M).drop (X + us.length):=by
 have e:(cur.take X++us).length=X + us.length:=by simp; omega
 rw [List.take_append,List.take_of_length_le (by omega),e,List.drop_take,List.take_take,Nat.min_eq_left (by omega)]
theorem qoB (hT:TOk P T) {s:Nat} {x y:Operand} (ho:o.op=.store s x y) (h:qot T σ nx s (opd t x) (opd t y) K):qM P t σ nx o K:=by
 have hmx:x∈o.op.operands:=by simp [ho,Op.operands]
 have hmy:y∈o.op.operands:=by simp [ho,Op.operands]
 have hrun:∀ (a:Act) (w w':World) (g p:Nat),a.eval x=.pointer (some ⟨g,p,none⟩)→(storeVar s ⟨g,p,none⟩ (a.eval y)).run P w=.ok () w'→(execOp a.eval o).run P w=.ok .skip w':=fun a w w' g p he hr=>by
  unfold execOp; simp [ho,he,Instr.storeAt,Instr.sureAddr,hr]
 unfold qot at h
 obtain ⟨vc,hvc,h⟩:=qgi h
 obtain ⟨hsz,h⟩:=bcF h
 simp only [Bool.and_eq_true] at hsz
 have hlen:=Nat.eq_of_beq_eq_true hsz.1
 rw [qah] at hlen
 have hsz1:=Nat.le_of_ble_eq_true hsz.2
 have hI:=(hT s).known (by omega)
 split at h
 ·rename_i b p hx
  split at h
  ·rename_i cs hb
   obtain ⟨hle,h⟩:=bcF h
   have hle:=Nat.le_of_ble_eq_true hle
   rw [qah] at hle
   obtain ⟨vs',nw,hk,hl',hok⟩:=qyY _ _ _ h
   refine ⟨_,_,_,_,hk,fun a f w S inj next Q hop hf hi hfr hn=>?_⟩
   have hfb:=(hf b (by simp)).trans hb
   obtain ⟨g,vs,e,hg,hs,hh,hvs⟩:=hi.box hfb
   have hv:=hop x hmx
   rw [hx] at hv
   have he:=(hv.cellv (by simp)).ptrv hg
   obtain ⟨us,hus,hfu⟩:=qgU (hop y hmy) hvc
   have hul:us.length=(ty T s).sz:=by rw [←hfu.len]; exact hlen
   have hvl:vs.length=cs.length:=hvs.len.symm
   have hr:=qfN hI (w:=w) (g:=g) (p:=p) hus hul hh (by simp; omega) (fun u hu=>by
    obtain ⟨i,hi⟩:=List.getElem?_of_mem hu
    obtain ⟨c,_,hc⟩:=hfu.getR hi
    exact hc.oneCell)
   obtain ⟨inj1,hle1,hsame,hvs',hi1⟩:=hok hi hfu hfr
   have hbn:¬ (nx≤b∧b < nx + nw.length):=fun hbb=>by
    have:=(hfr (b - nx) (by omega)).2
    rw [show nx + (b - nx)=b from by omega,hfb] at this
    cases this
   have hg1:inj1 b=.box g:=by rw [hsame b (by omega)]; exact hg
   have hd1:upd f nx [] nw b=.box cs:=by rw [qxx hbn]; exact hfb
   refine qgh (hrun a w _ g p he hr) (hn _ _ S inj1 ⟨.setRow hs,hle1,fun c hc hcc=>?_,.tup (vs:=[]) .nil,?_⟩)
   ·rw [hsame c hcc]; exact hc
   ·rw [qoA hbn]
    have hG:Grow w S (w.setRow g (vs.toArray.toList.take p++us++vs.toArray.toList.drop (p + us.length)).toArray) S:=.setRow hs
    refine hi1.setRow (by rw [hd1]; simp) (by rw [hg1]; rfl) ?_
    rw [hg1]
    refine ⟨g,vs.take p++us++vs.drop (p + us.length),e,rfl,hs,by simpa using setRow_heap w g _ _ _ _ hh,?_⟩
    rw [qfM _ _ _ (by omega)]
    have hcl:vs'.length=us.length:=by omega
    have hvs1:=hvs.mono' (R':=VR (w.setRow g (vs.toArray.toList.take p++us++vs.toArray.toList.drop (p + us.length)).toArray) S inj1) fun _ _ h=>h.grow hG hle1
    have hvs2:=hvs'.mono' (R':=VR (w.setRow g (vs.toArray.toList.take p++us++vs.toArray.toList.drop (p + us.length)).toArray) S inj1) fun _ _ h=>h.grow hG (.refl _)
    rw [hcl]
    exact ((hvs1.take p).app hvs2).app (hvs1.drop _)
  ·exact h.elim
 ·rename_i b k i p hx
  split at h
  ·rename_i k' l hb
   obtain ⟨hkk,h⟩:=bcF h
   simp only [Bool.and_eq_true] at hkk
   have hk':=Nat.eq_of_beq_eq_true hkk.2
   subst hk'
   obtain ⟨_,hrow⟩:=qdV hkk.1
   obtain ⟨ps,bs,h,hpl,_,hok⟩:=qkr _ h
   cases bs with
   | cons _ _=>exact h.elim
   | nil =>
    rw [qgF] at h
    obtain ⟨hle,h⟩:=bcF h
    have hle:=Nat.le_of_ble_eq_true hle
    rw [qah] at hle
    refine ⟨_,_,_,_,h _ rfl,fun a f w S inj next Q hop hf hi hfr hn=>?_⟩
    have hfb:=(hf b (by simp)).trans hb
    obtain ⟨v0,g0,hg0,hro⟩:=hi.rows hfb
    have hv:=hop x hmx
    rw [hx] at hv
    obtain ⟨g,n,c,hg,he⟩:=(hv.cellv (by simp)).epv (by rw [hg0]; simp)
    rw [hg0] at hg; injection hg with hg; injection hg with e1 e2; subst e1; subst e2
    obtain ⟨g',cap,cur,e,hk0,e3,e4,hs,hh,hcap,hmax,hsz',hrl,hfl⟩:=qgj hro (by rintro rfl; simp at hrow)
    injection e3 with e3; subst e3
    injection e4 with _ e5 e6
    subst e5; subst e6
    have hin:l[i]?=some (rowAt l i):=by simpa using hrow
    have hil:i < l.length:=by
     rcases Nat.lt_or_ge i l.length with h | h
     ·exact h
     ·rw [List.getElem?_eq_none h] at hin; cases hin
    have hrk:(rowAt l i).length=k:=hrl _ (List.mem_of_getElem? hin)
    have hbd:i * k + k≤l.length * k:=by
     have:(i + 1) * k≤l.length * k:=Nat.mul_le_mul_right _ hil
     rw [Nat.add_mul] at this; omega
    have hcm:l.length * k≤c * k:=Nat.mul_le_mul_right _ hcap
    obtain ⟨us,hus,hfu⟩:=qgU (hop y hmy) hvc
    have hul:us.length=(ty T s).sz:=by rw [←hfu.len]; exact hlen
    have hpu:=hok hi (by simp) hfu
    have hr:=qfN hI (w:=w) (g:=g) (p:=i * k + p) hus hul hh (by omega) (fun u hu=>by
     obtain ⟨i,hi⟩:=List.getElem?_of_mem hu
     obtain ⟨c,_,hc⟩:=hfu.getR hi
     exact hc.oneCell)
    refine qgh (hrun a w _ g _ he hr) (hn _ _ S inj ⟨.setRow hs,.refl _,fun c hc hcc=>hc,.tup (vs:=[]) .nil,?_⟩)
    rw [qoA (by simp),qcT]
    have hG:Grow w S (w.setRow g (cur.toList.take (i * k + p)++us++cur.toList.drop (i * k + p + us.length)).toArray) S:=.setRow hs
    refine hi.setRow (by rw [hfb]; simp) (by rw [hg0]; rfl) ?_
    rw [hg0]
    have hpsl:ps.length=us.length:=by omega
    refine ⟨_,_,rfl,.inr ⟨g,c,(cur.toList.take (i * k + p)++us++cur.toList.drop (i * k + p + us.length)).toArray,e,hk0,rfl,by rw [show (setRow l i (qdF (rowAt l i) p ps)).length=l.length from by unfold setRow; simp],hs,setRow_heap w g _ _ _ _ hh,?_,hmax,?_,?_,?_⟩⟩
    ·unfold setRow; simpa using hcap
    ·simp; omega
    ·intro r hr
     unfold setRow at hr
     rcases List.mem_or_eq_of_mem_set hr with hr | rfl
     ·exact hrl _ hr
     ·rw [qfM _ _ _ (by omega)]; simp; omega
    ·have e1:(setRow l i (qdF (rowAt l i) p ps)).flatten=(l.flatten.take (i * k + p)++ps)++l.flatten.drop (i * k + p + ps.length):=by
      unfold setRow
      rw [qfM _ _ _ (by omega)]
      exact quC l i hrl hin (by omega)
     rw [e1]
     have hG':=hfl.mono' (R':=PR (w.setRow g (cur.toList.take (i * k + p)++us++cur.toList.drop (i * k + p + us.length)).toArray) S) fun _ _ h=>h.grow hG
     have hpu':=hpu.mono' (R':=PR (w.setRow g (cur.toList.take (i * k + p)++us++cur.toList.drop (i * k + p + us.length)).toArray) S) fun _ _ h=>(h.sub (S':=S) (fun g h=>by rcases h with h | ⟨_,h,_⟩; exact h; simp at h)).grow hG
     have e2:List.take ((setRow l i (qdF (rowAt l i) p ps)).length * k) ((cur.toList.take (i * k + p)++us++cur.toList.drop (i * k + p + us.length)).toArray).toList
       = ((cur.toList.take (l.length * k)).take (i * k + p)++us)++(cur.toList.take (l.length * k)).drop (i * k + p + us.length):=by
      rw [show (setRow l i (qdF (rowAt l i) p ps)).length=l.length from by unfold setRow; simp]
      exact quD _ _ _ _ (by omega) (by simp; omega)
     rw [e2,hpsl]
     exact ((hG'.take _).app hpu').app (hG'.drop _)
  ·exact h.elim
 ·exact h.elim
end Go.Proofs.YtidkmoohgadjkaaGreat.E
namespace Go.Proofs.YtidkmoohgadjkaaGreat.E
open Go
variable {P:Program} {T:List TI} {t:List A} {σ:List Blk} {nx:Nat} {o:Oper} {K:Kont}
theorem bcT {b:Bool} {x:Prop} (h:qw b False x):b=false∧x:=by cases b; exact ⟨rfl,h⟩; exact h.elim
theorem qbH {v:Value} {rd:List Nat} (hk:K (.one (.p (.v v))) [] [] rd) (hfl:flat v=true)
  (h:∀ (a:Act) (f:Nat→Blk) (w:World) (S:Zone) (inj:Nat→Loc),(∀ x,x∈o.op.operands→VA w S inj (opd t x) (a.eval x))→(∀ b,b∈rd→f b=look σ b)→Inv w S inj f →
   (execOp a.eval o).run P w=.ok (.value v) w):qM P t σ nx o K :=
 qab hk fun a f w S inj hop hf hi=>⟨v,h a f w S inj hop hf hi,.ofv hfl⟩
theorem qrq {op:BinOp} {k:IntKind} {a b:Int} {Kv:Value→Prop} (hop:op≠.shl∧op≠.shr) (h:qq4 op k a b Kv):∃ v,Kv v∧flat v=true∧∀ s w,(binOp op s (.int k a) (.int k b)).run P w=.ok v w:=by
 unfold qq4 at h
 split at h
 case h_4=>obtain ⟨he,h⟩:=bcT h; exact ⟨_,h,rfl,fun s w=>by unfold eqI at he; simp at he; simp [binOp,Op.intDiv,he,wr,qjq]⟩
 case h_5=>obtain ⟨he,h⟩:=bcT h; exact ⟨_,h,rfl,fun s w=>by unfold eqI at he; simp at he; simp [binOp,Op.intDiv,he,qp1]⟩
 case h_16=>exact h.elim
 all_goals exact ⟨_,h,rfl,fun s w=>by simp [binOp,Op.intArith,Op.intBits,Op.intCmp,wr,qni,eqI,ltI,leI,bne]⟩
theorem qrr {op:BinOp} {a b:ByteArray} {Kv:Value→Prop} (h:qq5 op a b Kv):∃ v,Kv v∧flat v=true∧∀ s w,(binOp op s (.string a) (.string b)).run P w=.ok v w:=by
 unfold qq5 at h
 split at h
 case h_1 =>
  obtain ⟨he,h⟩:=bcF h
  unfold qyM at he
  simp only [decide_eq_true_eq] at he
  refine ⟨_,h,rfl,fun s w=>?_⟩
  simp only [binOp,Op.stringOp,catS]
  rw [if_neg (by omega)]
  rfl
 case h_8=>exact h.elim
 all_goals exact ⟨_,h,rfl,fun s w=>by simp [binOp,Op.stringOp,qv6,qyL]⟩
theorem qaU {op:BinOp} {k:FloatKind} {a b:Nat} (hop:op=.add∨op=.sub∨op=.mul) (h:arOk op k a b=true) (w:World):(Op.floatArith op k a b).run P w=.ok (.float k (arV op k a b)) w:=by
 unfold arOk at h
 obtain ⟨r,hr⟩:=Option.isSome_iff_exists.1 h
 rcases hop with rfl | rfl | rfl<;>simp only [] at hr<;>simp [Op.floatArith,arV,hr]
theorem qrs {op:BinOp} {k:FloatKind} {a b:Nat} {Kv:Value→Prop} (h:qq6 op k a b Kv):∃ v,Kv v∧flat v=true∧∀ s w,(binOp op s (.float k a) (.float k b)).run P w=.ok v w:=by
 unfold qq6 at h
 split at h
 case h_1=>obtain ⟨he,h⟩:=bcF h; exact ⟨_,h,rfl,fun s w=>by simp [binOp,qaU (.inl rfl) he]⟩
 case h_2=>obtain ⟨he,h⟩:=bcF h; exact ⟨_,h,rfl,fun s w=>by simp [binOp,qaU (.inr (.inl rfl)) he]⟩
 case h_3=>obtain ⟨he,h⟩:=bcF h; exact ⟨_,h,rfl,fun s w=>by simp [binOp,qaU (.inr (.inr rfl)) he]⟩
 case h_10=>exact h.elim
 all_goals exact ⟨_,h,rfl,fun s w=>by simp [binOp,Op.floatCmp,eqFl,ltFl,gtFl,bne]⟩
theorem qlF {k:FloatKind} {a b c d:Nat} (w:World):(Op.complexOp .eql k a b c d).run P w=.ok (.bool (eqFl k a c&&eqFl k b d)) w∧(Op.complexOp .neq k a b c d).run P w=.ok (.bool (!(eqFl k a c&&eqFl k b d))) w:=by
 constructor<;>simp [Op.complexOp,Op.Complex.cmp,Op.floatCmp,asBool,eqFl]
theorem qrt {op:BinOp} {k:FloatKind} {a b c d:Nat} {Kv:Value→Prop} (h:qq7 op k a b c d Kv):∃ v,Kv v∧flat v=true∧∀ s w,(binOp op s (.complex k a b) (.complex k c d)).run P w=.ok v w:=by
 unfold qq7 at h
 split at h
 case h_1 =>
  obtain ⟨he,h⟩:=bcF h
  simp only [Bool.and_eq_true] at he
  exact ⟨_,h,rfl,fun s w=>by simp [binOp,Op.complexOp,Op.Complex.arith,qaU (.inl rfl) he.1,qaU (.inl rfl) he.2]⟩
 case h_2 =>
  obtain ⟨he,h⟩:=bcF h
  simp only [Bool.and_eq_true] at he
  exact ⟨_,h,rfl,fun s w=>by simp [binOp,Op.complexOp,Op.Complex.arith,qaU (.inr (.inl rfl)) he.1,qaU (.inr (.inl rfl)) he.2]⟩
 case h_3=>exact ⟨_,h,rfl,fun s w=>by simp [binOp,qlF]⟩
 case h_4=>exact ⟨_,h,rfl,fun s w=>by simp [binOp,qlF]⟩
 case h_5=>exact h.elim
theorem qru {z:Value} {x y:C} {Kb:Bool→Prop} (h:qos z x y Kb):∃ b,Kb b∧∀ {w S inj u v},VR w S inj x u→VR w S inj y v→eqV z u v=some b:=by
 unfold qos at h
 split at h
 ·obtain ⟨he,h2⟩:=bcF h
  simp only [Bool.and_eq_true,decide_eq_true_eq] at he
  obtain ⟨rfl,rfl⟩:=he
  refine ⟨_,h2,fun {w S inj u v} hu hv=>?_⟩
  obtain ⟨rfl,_⟩:=(VA.ofc hu).flatv
  obtain ⟨rfl,_⟩:=(VA.ofc hv).flatv
  simp [eqV,eqI]
 ·refine ⟨_,h,fun {w S inj u v} hu hv=>?_⟩
  obtain ⟨rfl,_⟩:=(VA.ofc hu).flatv
  obtain ⟨rfl,_⟩:=(VA.ofc hv).flatv
  simp [eqV,qv6]
 ·rename_i a b
  refine ⟨_,h,fun {w S inj u v} hu hv=>?_⟩
  obtain ⟨rfl,_⟩:=(VA.ofc hu).flatv
  obtain ⟨rfl,_⟩:=(VA.ofc hv).flatv
  cases a<;>cases b<;>rfl
 ·obtain ⟨he,h2⟩:=bcF h
  simp only [Bool.and_eq_true,decide_eq_true_eq] at he
  obtain ⟨rfl,rfl⟩:=he
  refine ⟨_,h2,fun {w S inj u v} hu hv=>?_⟩
  obtain ⟨rfl,_⟩:=(VA.ofc hu).flatv
  obtain ⟨rfl,_⟩:=(VA.ofc hv).flatv
  simp [eqV,eqFl,Op.floatEq]
 ·exact h.elim
theorem qfO:∀ {z xs ys:List Value} {b:Bool},eqZ z xs ys=some b→xs.length=z.length∧ys.length=z.length
 | [],[],[],_,_=>⟨rfl,rfl⟩
 | z::zs,x::xs,y::ys,b,h=>by
  unfold eqZ at h
  split at h
  ·obtain ⟨h1,h2⟩:=qfO h; simp [h1,h2]
  ·split at h
   ·rename_i h'; simp [h'.1,h'.2]
   ·cases h
  ·cases h
 | [],_::_,_,_,h=>by simp [eqZ] at h
 | [],[],_::_,_,h=>by simp [eqZ] at h
 | _::_,[],_,_,h=>by simp [eqZ] at h
 | _::_,_::_,[],_,h=>by simp [eqZ] at h
theorem qjD (zs:List Value):∀ {xs ys:List C} {Kb:Bool→Prop},qkg zs xs ys Kb→∃ b,Kb b∧∀ {w S inj us vs},F2 (VR w S inj) xs us→F2 (VR w S inj) ys vs→eqZ zs us vs=some b:=by
 induction zs with
 | nil =>
  intro xs ys Kb h
  cases xs with
  | cons _ _=>exact h.elim
  | nil=>cases ys with
   | cons _ _=>exact h.elim
   | nil=>exact ⟨true,h,fun hu hv=>by cases hu; cases hv; rfl⟩
 | cons z zs ih =>
  intro xs ys Kb h
  cases xs with
  | nil=>exact h.elim
  | cons x xs=>cases ys with
   | nil=>exact h.elim
   | cons y ys =>
    change qos z x y (fun b=>qkg zs xs ys fun c=>Kb (andB b c)) at h
    obtain ⟨b,h,hb⟩:=qru h
    obtain ⟨c,h,hok⟩:=ih h
    refine ⟨andB b c,h,fun hu hv=>?_⟩
    cases hu with | cons hu hus=>cases hv with | cons hv hvs =>
    have h2:=hok hus hvs
    cases b with
    | true=>simp only [eqZ,hb hu hv,h2,andB,Bool.true_and]
    | false =>
     simp only [eqZ,hb hu hv,andB,Bool.false_and]
     rw [if_pos (qfO h2)]
theorem qqa {op:BinOp} {s:Nat} {x y:Operand} {a b:Value} (w:World) (h:(a≠.nilIface∨b≠.nilIface)∧(∀ cs,a≠.agg cs)):(eqGuard op s x y a b).run P w=.ok () w:=by
 have key:∀ c:Bool,((if c=true then pure () else match (generalizing:=false) a,b with
   | .nilIface,.nilIface =>
    if (x matches .const _) || (y matches .const _) then pure () else do
    if ← Op.eqGuardIn Op.maxDepth s a b then unsupported (.noEntry "binop/eql: two nil values of an interface type with methods, neither of them the literal nil")
   | .agg _,.agg _=>do
    if !(← program).eqGuardType (← program).depth s then pure () else
    if ← Op.eqGuardIn Op.maxDepth s a b then unsupported (.noEntry "binop/eql: two nil values of an interface type with methods, in a part of a struct or an array")
   | _,_=>pure ():Sem Unit)).run P w=.ok () w:=by
  intro c
  cases c
  ·simp only [Bool.false_eq_true,if_false]
   split
   ·rcases h.1 with h | h<;>exact absurd rfl h
   ·exact absurd rfl (h.2 _)
   ·rfl
  ·rfl
 exact key _
theorem qds {op:BinOp} {s:Nat} {x y:Operand} {a b v:Value} {w:World} (ha:(a≠.nilIface∨b≠.nilIface)∧(∀ cs,a≠.agg cs)) (h:(binOp op s a b).run P w=.ok v w) :
  (do eqGuard op s x y a b; binOp op s a b).run P w=.ok v w:=by
 simp only [Sem.run_bind,qqa w ha,Result.andThen_ok,h]
theorem qqb {s:Nat} (hD:P.underlying s=some .bool) (a b:Bool) (w:World):(Op.equal s (.bool a) (.bool b)).run P w=.ok (a == b) w:=by
 have key:∀ d,(Op.equalIn (d + 1) s (.bool a) (.bool b)).run P w=.ok (a == b) w:=fun d=>by simp [Op.equalIn,run_underlying hD]
 exact key 9999
theorem qxy (hT : TOk P T) {op : BinOp} {s : Nat} {x y : A} {Ka : A → Prop} (h : binC op (ty T s) x y Ka) : ∃ v, Ka (.one (.p (.v v))) ∧ flat v = true ∧
    ∀ {w S inj u u'} (xo yo : Operand), VA w S inj x u → VA w S inj y u' → (do eqGuard op s xo yo u u'; binOp op s u u').run P w = .ok v w := by
  unfold binC at h
  split at h
  · rename_i k a k' b
    split at h
    · obtain ⟨he, h⟩ := bcT h
      refine ⟨_, h, rfl, fun {w S inj u u'} xo yo hu hv => ?_⟩
      obtain ⟨rfl, _⟩ := hu.flatv
      obtain ⟨rfl, _⟩ := hv.flatv
      unfold ltI at he
      simp only [decide_eq_false_iff_not] at he
      refine qds ⟨.inl (by simp), by simp⟩ ?_
      simp only [binOp, Op.shift]
      rw [if_neg he]
      rfl
    · obtain ⟨he, h⟩ := bcT h
      refine ⟨_, h, rfl, fun {w S inj u u'} xo yo hu hv => ?_⟩
      obtain ⟨rfl, _⟩ := hu.flatv
      obtain ⟨rfl, _⟩ := hv.flatv
      unfold ltI at he
      simp only [decide_eq_false_iff_not] at he
      refine qds ⟨.inl (by simp), by simp⟩ ?_
      simp only [binOp, Op.shift]
      rw [if_neg he]
      rfl
    · rename_i h1 h2
      obtain ⟨he, h3⟩ := bcF h
      simp only [decide_eq_true_eq] at he
      subst he
      obtain ⟨v, hk, hfl, hr⟩ := qrq (P := P) ⟨h1, h2⟩ h3
      refine ⟨v, hk, hfl, fun {w S inj u u'} xo yo hu hv => ?_⟩
      obtain ⟨rfl, _⟩ := hu.flatv
      obtain ⟨rfl, _⟩ := hv.flatv
      exact qds ⟨.inl (by simp), by simp⟩ (hr _ _)
  · rename_i a b
    have key : ∀ {op : BinOp}, (op = .eql ∨ op = .neq) → (ty T s).d = .bool → ∀ {w S inj u u'} (xo yo : Operand), VA w S inj (.one (.p (.v (.bool a)))) u → VA w S inj (.one (.p (.v (.bool b)))) u' →
        (do eqGuard op s xo yo u u'; binOp op s u u').run P w = .ok (.bool (if op = .eql then a == b else !(a == b))) w := by
      intro op hop hd w S inj u u' xo yo hu hv
      obtain ⟨rfl, _⟩ := hu.flatv
      obtain ⟨rfl, _⟩ := hv.flatv
      have hD := ((hT s).desc (by rw [hd]; simp)).d
      rw [hd] at hD
      have hE := qqb hD a b w
      rcases hop with rfl | rfl <;> refine qds ⟨.inl (by simp), by simp⟩ ?_ <;> simp [binOp, hE]
    split at h
    · rename_i hd
      exact ⟨_, h, rfl, fun {w S inj u u'} xo yo hu hv => by rw [key (.inl rfl) hd xo yo hu hv]; cases a <;> cases b <;> rfl⟩
    · rename_i hd
      exact ⟨_, h, rfl, fun {w S inj u u'} xo yo hu hv => by rw [key (.inr rfl) hd xo yo hu hv]; cases a <;> cases b <;> rfl⟩
    · exact h.elim
  · obtain ⟨v, hk, hfl, hr⟩ := qrr (P := P) h
    refine ⟨v, hk, hfl, fun {w S inj u u'} xo yo hu hv => ?_⟩
    obtain ⟨rfl, _⟩ := hu.flatv
    obtain ⟨rfl, _⟩ := hv.flatv
    exact qds ⟨.inl (by simp), by simp⟩ (hr _ _)
  · obtain ⟨he, h3⟩ := bcF h
    simp only [decide_eq_true_eq] at he
    subst he
    obtain ⟨v, hk, hfl, hr⟩ := qrs (P := P) h3
    refine ⟨v, hk, hfl, fun {w S inj u u'} xo yo hu hv => ?_⟩
    obtain ⟨rfl, _⟩ := hu.flatv
    obtain ⟨rfl, _⟩ := hv.flatv
    exact qds ⟨.inl (by simp), by simp⟩ (hr _ _)
  · obtain ⟨he, h3⟩ := bcF h
    simp only [decide_eq_true_eq] at he
    subst he
    obtain ⟨v, hk, hfl, hr⟩ := qrt (P := P) h3
    refine ⟨v, hk, hfl, fun {w S inj u u'} xo yo hu hv => ?_⟩
    obtain ⟨rfl, _⟩ := hu.flatv
    obtain ⟨rfl, _⟩ := hv.flatv
    exact qds ⟨.inl (by simp), by simp⟩ (hr _ _)
  · have key : ∀ {op : BinOp}, (op = .eql ∨ op = .neq) → (ty T s).eq = true → ∀ {w S inj u u' xs ys b} (xo yo : Operand), VA w S inj (.agg xs) u → VA w S inj (.agg ys) u' →
        (∀ {w S inj us vs}, F2 (VR w S inj) xs us → F2 (VR w S inj) ys vs → eqZ (ty T s).z us vs = some b) → (do eqGuard op s xo yo u u'; binOp op s u u').run P w = .ok (.bool (if op = .eql then b else !b)) w := by
      intro op hop heq w S inj u u' xs ys b xo yo hu hv hz
      obtain ⟨us, rfl, hus⟩ := hu.agg'
      obtain ⟨vs, rfl, hvs⟩ := hv.agg'
      rcases hT s with he | hI
      · rw [he] at heq; cases heq
      have hE := hI.eq heq
      have hr := hE.2 us vs b w (hz hus hvs)
      rcases hop with rfl | rfl <;> simp [eqGuard, hE.1, binOp, hr]
    split at h
    · obtain ⟨he, h⟩ := bcF h
      obtain ⟨b, h, hb⟩ := qjD _ h
      exact ⟨_, h, rfl, fun {w S inj u u'} xo yo hu hv => by simpa using key (.inl rfl) he xo yo hu hv hb⟩
    · obtain ⟨he, h⟩ := bcF h
      obtain ⟨b, h, hb⟩ := qjD _ h
      exact ⟨_, h, rfl, fun {w S inj u u'} xo yo hu hv => by simpa using key (.inr rfl) he xo yo hu hv hb⟩
    · exact h.elim
  · exact h.elim
end Go.Proofs.YtidkmoohgadjkaaGreat.E
namespace Go.Proofs.YtidkmoohgadjkaaGreat.E
open Go
variable {P:Program} {T:List TI} {t:List A} {σ:List Blk} {nx:Nat} {o:Oper} {K:Kont}
theorem qxz {op:UnOp} {s:Nat} {x:Operand} (ho:o.op=.unOp op s x) (h:qaJ T t σ nx (.unOp op s x) K):qM P t σ nx o K:=by
 have hmem:x∈o.op.operands:=by simp [ho,Op.operands]
 dsimp only [qaJ] at h
 split at h
 ·rename_i b hx
  refine qbH h rfl fun a f w S inj hop hf hi=>?_
  have hv:=hop x hmem
  rw [hx] at hv
  unfold execOp; simp [ho,hv.flatv.1,Op.unary]
 ·rename_i k n hx
  refine qbH h rfl fun a f w S inj hop hf hi=>?_
  have hv:=hop x hmem
  rw [hx] at hv
  unfold execOp; simp [ho,hv.flatv.1,Op.unary,Op.intArith,wr]
 ·rename_i k n hx
  refine qbH h rfl fun a f w S inj hop hf hi=>?_
  have hv:=hop x hmem
  rw [hx] at hv
  unfold execOp; simp [ho,hv.flatv.1,Op.unary,Op.intBits,qni]
 ·exact h.elim
theorem qy0 {s e:Nat} (hD:P.underlying s=some (.pointer e)) (w:World):(Op.equal s (.pointer none) (.pointer none)).run P w=.ok true w:=by
 have key:∀ d,(Op.equalIn (d + 1) s (.pointer none) (.pointer none)).run P w=.ok true w:=fun d=>by simp [Op.equalIn,run_underlying hD]
 exact key 9999
theorem qy1 {s e:Nat} (hD:P.underlying s=some (.pointer e)) (a:Addr) (w:World):(Op.equal s (.pointer (some a)) (.pointer none)).run P w=.ok false w:=by
 have key:∀ d,(Op.equalIn (d + 1) s (.pointer (some a)) (.pointer none)).run P w=.ok false w:=fun d=>by simp [Op.equalIn,run_underlying hD]
 exact key 9999
theorem qy2 {s:Nat} {ms} (hD:P.underlying s=some (.interface ms)) (a b:Nat) (k k':IntKind) (m n:Int) (w:World) (hab:a≠b):(Op.equal s (.iface a (.int k m)) (.iface b (.int k' n))).run P w=.ok false w:=by
 have key:∀ d,(Op.equalIn (d + 1) s (.iface a (.int k m)) (.iface b (.int k' n))).run P w=.ok false w:=fun d=>by simp [Op.equalIn,run_underlying hD,hab]
 exact key 9999
theorem qy3 {s a:Nat} {ms} {i:TypeInfo} {k2:IntKind} (hD:P.underlying s=some (.interface ms)) (hD2:P.underlying a=some (.int k2)) (hi:P.info? a=some i) (hc:i.comparable=true) (k:IntKind) (m n:Int) (w:World) :
  (Op.equal s (.iface a (.int k m)) (.iface a (.int k n))).run P w=.ok (eqI m n) w:=by
 have key:∀ d,(Op.equalIn (d + 2) s (.iface a (.int k m)) (.iface a (.int k n))).run P w=.ok (eqI m n) w:=fun d=>by
  simp [Op.equalIn,run_underlying hD,run_underlying hD2,typeInfo,hi,hc,eqI]
 exact key 9998
theorem qy4 {s:Nat} {ms} (hD:P.underlying s=some (.interface ms)) (a:Nat) (v:Value) (w:World):(Op.equal s (.iface a v) .nilIface).run P w=.ok false w:=by
 have key:∀ d,(Op.equalIn (d + 1) s (.iface a v) .nilIface).run P w=.ok false w:=fun d=>by simp [Op.equalIn,run_underlying hD]
 exact key 9999
theorem qy5 {s:Nat} {ms} (hD:P.underlying s=some (.interface ms)) (a:Nat) (v:Value) (w:World):(Op.equal s .nilIface (.iface a v)).run P w=.ok false w:=by
 have key:∀ d,(Op.equalIn (d + 1) s .nilIface (.iface a v)).run P w=.ok false w:=fun d=>by simp [Op.equalIn,run_underlying hD]
 exact key 9999
theorem qy6 {s:Nat} {ms} (hD:P.underlying s=some (.interface ms)) (w:World):(Op.equal s .nilIface .nilIface).run P w=.ok true w:=by
 have key:∀ d,(Op.equalIn (d + 1) s .nilIface .nilIface).run P w=.ok true w:=fun d=>by simp [Op.equalIn,run_underlying hD]
 exact key 9999
theorem qrv (hT:TOk P T) {s:Nat} {cst:Bool} {x y:A} {Kb:Bool→List Nat→Prop} (h:nilC T σ (ty T s) cst x y Kb):∃ b bs,Kb b bs ∧
  ∀ {w S inj f u u'} (xo yo:Operand),(cst=true→qer xo=true∨qer yo=true)→Inv w S inj f→(∀ b,b∈bs→f b=look σ b)→VA w S inj x u→VA w S inj y u' →
   (do eqGuard .eql s xo yo u u'; binOp .eql s u u').run P w=.ok (.bool b) w∧(do eqGuard .neq s xo yo u u'; binOp .neq s u u').run P w=.ok (.bool (!b)) w:=by
 have both:∀ {u u':Value} {b:Bool} {w:World} (xo yo:Operand),((u≠.nilIface∨u'≠.nilIface)∧∀ cs,u≠.agg cs)→(binOp .eql s u u'=(do pure (.bool (← Op.equal s u u'))))→(binOp .neq s u u'=(do pure (.bool (!(← Op.equal s u u')))))→(Op.equal s u u').run P w=.ok b w →
   (do eqGuard .eql s xo yo u u'; binOp .eql s u u').run P w=.ok (.bool b) w∧(do eqGuard .neq s xo yo u u'; binOp .neq s u u').run P w=.ok (.bool (!b)) w:=by
  intro u u' b w xo yo hg hb hb2 he
  exact ⟨qds hg (by rw [hb,Sem.run_bind,he]; rfl),qds hg (by rw [hb2,Sem.run_bind,he]; rfl)⟩
 unfold nilC at h
 split at h
 ·rename_i e hd
  have hD:=((hT s).desc (by rw [hd]; simp)).d
  rw [hd] at hD
  refine ⟨_,_,h,fun {w S inj f u u'} xo yo _ hi hf hu hv=>?_⟩
  obtain ⟨rfl,_⟩:=hu.flatv
  obtain ⟨rfl,_⟩:=hv.flatv
  refine both xo yo ⟨.inl (by simp),by simp⟩ rfl rfl ?_
  exact qy0 hD w
 ·rename_i e b p hd
  have hD:=((hT s).desc (by rw [hd]; simp)).d
  rw [hd] at hD
  split at h
  ·rename_i cs hb
   refine ⟨_,_,h,fun {w S inj f u u'} xo yo _ hi hf hu hv=>?_⟩
   obtain ⟨g,vs,e',hg,_⟩:=hi.box ((hf b (by simp)).trans hb)
   have he:=(hu.cellv (by simp)).ptrv hg
   subst he
   obtain ⟨rfl,_⟩:=hv.flatv
   refine both xo yo ⟨.inl (by simp),by simp⟩ rfl rfl ?_
   exact qy1 hD _ w
  ·exact h.elim
 ·rename_i a k m b k' n hd
  have hI:=((hT s).desc (by rw [hd]; simp)).d
  rw [hd] at hI
  obtain ⟨ms,hD⟩:=hI
  rw [qL] at h
  rcases h with ⟨hab,h⟩ | ⟨hab,h⟩
  ·have hab:=Nat.eq_of_beq_eq_true hab
   subst hab
   obtain ⟨hk,h3⟩:=bcF h
   simp only [decide_eq_true_eq] at hk
   subst hk
   split at h3
   ·rename_i k2 hd2
    have hI2:=(hT a).desc (by rw [hd2]; simp)
    have hD2:=hI2.d
    rw [hd2] at hD2
    obtain ⟨i,zv,hi,_,_,_,_,_,hcmp⟩:=hI2.info
    have hc:=hcmp.1 ⟨_,hd2⟩
    refine ⟨_,_,h3,fun {w S inj f u u'} xo yo _ hi' hf hu hv=>?_⟩
    obtain ⟨rfl,_⟩:=hu.flatv
    obtain ⟨rfl,_⟩:=hv.flatv
    refine both xo yo ⟨.inl (by simp),by simp⟩ rfl rfl ?_
    exact qy3 hD hD2 hi hc k m n w
   ·exact h3.elim
  ·have hab:=Nat.ne_of_beq_eq_false hab
   refine ⟨_,_,h,fun {w S inj f u u'} xo yo _ hi' hf hu hv=>?_⟩
   obtain ⟨rfl,_⟩:=hu.flatv
   obtain ⟨rfl,_⟩:=hv.flatv
   refine both xo yo ⟨.inl (by simp),by simp⟩ rfl rfl ?_
   exact qy2 hD a b k k' m n w hab
 ·rename_i a m hd
  have hI:=((hT s).desc (by rw [hd]; simp)).d
  rw [hd] at hI
  obtain ⟨ms,hD⟩:=hI
  refine ⟨_,_,h,fun {w S inj f u u'} xo yo _ hi' hf hu hv=>?_⟩
  obtain ⟨rfl,_⟩:=hu.flatv
  obtain ⟨rfl,_⟩:=hv.flatv
  refine both xo yo ⟨.inl (by simp),by simp⟩ rfl rfl ?_
  exact qy4 hD a m w
 ·rename_i a m hd
  have hI:=((hT s).desc (by rw [hd]; simp)).d
  rw [hd] at hI
  obtain ⟨ms,hD⟩:=hI
  refine ⟨_,_,h,fun {w S inj f u u'} xo yo _ hi' hf hu hv=>?_⟩
  obtain ⟨rfl,_⟩:=hu.flatv
  obtain ⟨rfl,_⟩:=hv.flatv
  refine both xo yo ⟨.inr (by simp),by simp⟩ rfl rfl ?_
  exact qy5 hD a m w
 ·rename_i hd
  have hI:=((hT s).desc (by rw [hd]; simp)).d
  rw [hd] at hI
  obtain ⟨ms,hD⟩:=hI
  obtain ⟨hc,h⟩:=bcF h
  refine ⟨_,_,h,fun {w S inj f u u'} xo yo hco hi' hf hu hv=>?_⟩
  obtain ⟨rfl,_⟩:=hu.flatv
  obtain ⟨rfl,_⟩:=hv.flatv
  have hE:=qy6 hD w
  have hco:=hco hc
  have hg:(eqGuard .eql s xo yo .nilIface .nilIface).run P w=.ok () w:=by
   cases xo<;>first | rfl | (cases yo<;>first | rfl | (rcases hco with h | h<;>cases h; done))
  have hg2:(eqGuard .neq s xo yo .nilIface .nilIface).run P w=.ok () w:=by
   cases xo<;>first | rfl | (cases yo<;>first | rfl | (rcases hco with h | h<;>cases h; done))
  have e1:binOp .eql s .nilIface .nilIface=(do pure (.bool (← Op.equal s .nilIface .nilIface))):=rfl
  have e2:binOp .neq s .nilIface .nilIface=(do pure (.bool (!(← Op.equal s .nilIface .nilIface)))):=rfl
  exact ⟨by rw [Sem.run_bind,hg,Result.andThen_ok,e1,Sem.run_bind,hE]; rfl,by rw [Sem.run_bind,hg2,Result.andThen_ok,e2,Sem.run_bind,hE]; rfl⟩
 ·exact h.elim
theorem quE (hT:TOk P T) {op:BinOp} {s s':Nat} {x y:Operand} (ho:o.op=.binOp op s x y s') (h:qaJ T t σ nx (.binOp op s x y s') K):qM P t σ nx o K:=by
 have hmx:x∈o.op.operands:=by simp [ho,Op.operands]
 have hmy:y∈o.op.operands:=by simp [ho,Op.operands]
 have hrun:∀ {a:Act} {w:World} {v},(do eqGuard op s x y (a.eval x) (a.eval y); binOp op s (a.eval x) (a.eval y)).run P w=.ok v w→(execOp a.eval o).run P w=.ok (.value v) w:=fun {a w v} hr=>by
  unfold execOp
  rw [ho]
  show (Sem.run P ((do eqGuard op s x y (a.eval x) (a.eval y); binOp op s (a.eval x) (a.eval y)) >>= fun v=>pure (Next.value v)) w)=_
  rw [Sem.run_bind,hr]
  rfl
 have hnil:(match op with
   | .eql=>nilC T σ (ty T s) (qer x || qer y) (opd t x) (opd t y) fun b bs=>K (.one (.p (.v (.bool b)))) [] [] bs
   | .neq=>nilC T σ (ty T s) (qer x || qer y) (opd t x) (opd t y) fun b bs=>K (.one (.p (.v (.bool (!b))))) [] [] bs
   | _=>False)→qM P t σ nx o K:=by
  intro h
  split at h
  ·obtain ⟨b,bs,hk,hr⟩:=qrv hT h
   exact qbH hk rfl fun a f w S inj hop hf hi=>hrun (hr x y (by simp) hi hf (hop x hmx) (hop y hmy)).1
  ·obtain ⟨b,bs,hk,hr⟩:=qrv hT h
   exact qbH hk rfl fun a f w S inj hop hf hi=>hrun (hr x y (by simp) hi hf (hop x hmx) (hop y hmy)).2
  ·exact h.elim
 dsimp only [qaJ] at h
 split at h
 ·exact hnil h
 ·exact hnil h
 ·obtain ⟨v,hk,hfl,hr⟩:=qxy hT h
  exact qbH hk hfl fun a f w S inj hop hf hi=>hrun (hr x y (hop x hmx) (hop y hmy))
theorem qh0 (hT:TOk P T) {s:Nat} {x:Operand} (ho:o.op=.makeInterface s x) (h:qaJ T t σ nx (.makeInterface s x) K):qM P t σ nx o K:=by
 dsimp only [qaJ] at h
 split at h
 ·rename_i k k' n hd hx
  have hD:=((hT s).desc (by rw [hd]; simp)).d
  rw [hd] at hD
  refine qbH h rfl fun a f w S inj hop hf hi=>?_
  have hv:=hop x (by simp [ho,Op.operands])
  rw [hx] at hv
  unfold execOp; simp [ho,hv.flatv.1,Instr.makeInterface,run_underlying hD]
 ·exact h.elim
theorem qrw (l:List A):∀ {Kp:List Nat→Prop},qq9 l Kp→∃ bs,Kp bs∧∀ {w S inj vs},F2 (VA w S inj) l vs→F2 (fun b v=>∃ a,v=.pointer a∧(inj b=.dead∨∃ g,inj b=.box g∧a=some ⟨g,0,none⟩)) bs vs:=by
 induction l with
 | nil=>intro Kp h; exact ⟨[],h,fun hv=>by cases hv; exact .nil⟩
 | cons x l ih =>
  intro Kp h
  have h':(fun x:A=>(match x with | .one (.ptr b 0)=>qq9 l (fun bs=>Kp (b::bs)) | _=>False:Prop)) x:=h
  clear h
  simp only at h'
  split at h'
  ·rename_i b
   obtain ⟨bs,hk,hok⟩:=ih h'
   refine ⟨_,hk,fun hv=>?_⟩
   cases hv with
   | cons hv hvs =>
    have:=hv.cellv (by simp)
    cases this with | ptr hb=>exact .cons ⟨_,rfl,hb⟩ (hok hvs)
  ·exact h'.elim
theorem qks {w S inj} {a:Act} (l:List Operand) (h:∀ x,x∈l→VA w S inj (opd t x) (a.eval x)):F2 (VA w S inj) (l.map (opd t)) (l.map a.eval):=by
 induction l with
 | nil=>exact .nil
 | cons x l ih=>exact .cons (h x (by simp)) (ih fun y hy=>h y (by simp [hy]))
theorem qnp {fn:Fn} {first caps:Array Operand} (ho:o.op=.makeFunc fn first caps) (h:qaJ T t σ nx (.makeFunc fn first caps) K):qM P t σ nx o K:=by
 dsimp only [qaJ] at h
 split at h
 ·rename_i f hfst
  obtain ⟨bs,hk,hok⟩:=qrw _ h
  refine qab hk fun a f' w S inj hop hf hi=>?_
  have hfst':first = #[]:=by simpa using hfst
  subst hfst'
  have:=hok (w:=w) (S:=S) (inj:=inj) (vs:=caps.toList.map a.eval) (by rw [qay]; exact qks _ fun x hx=>hop x (by simp [ho,Op.operands]; simpa using hx))
  refine ⟨.func (.func f) #[] (caps.toList.map a.eval).toArray,?_,.ofc (.fn this)⟩
  unfold execOp; cases caps; simp [ho,Instr.makeFunc]
 ·exact h.elim
theorem qkt (hT:TOk P T) {x:Operand} {s0 s:Nat} {ok:Bool} (ho:o.op=.typeAssert x s0 s ok) (h:qaJ T t σ nx (.typeAssert x s0 s ok) K):qM P t σ nx o K:=by
 have hmem:x∈o.op.operands:=by simp [ho,Op.operands]
 dsimp only [qaJ] at h
 split at h
 ·rename_i s' k n k' hx hd
  have hI:=(hT s).desc (by rw [hd]; simp)
  have hD:=hI.d
  rw [hd] at hD
  obtain ⟨hs,h2⟩:=bcF h
  have hs:=Nat.eq_of_beq_eq_true hs
  subst hs
  clear h
  split at h2
  ·refine qbH h2 rfl fun a f w S inj hop hf hi=>?_
   have hv:=hop x hmem
   rw [hx] at hv
   unfold execOp; simp [ho,hv.flatv.1,Instr.typeAssert,run_underlying hD]
  ·refine qab h2 fun a f w S inj hop hf hi=>?_
   have hv:=hop x hmem
   rw [hx] at hv
   refine ⟨.tuple #[.int k n,.bool true],by unfold execOp; simp [ho,hv.flatv.1,Instr.typeAssert,run_underlying hD],.tup (vs:=[.int k n,.bool true]) (.cons (.one (.p (.v rfl))) (.cons (.one (.p (.v rfl))) .nil))⟩
 ·rename_i k hx hd
  have hI:=(hT s).desc (by rw [hd]; simp)
  have hD:=hI.d
  rw [hd] at hD
  split at h
  ·rename_i z hz
   refine qab h fun a f w S inj hop hf hi=>?_
   have hv:=hop x hmem
   rw [hx] at hv
   obtain ⟨i,zv,hi',_,_,hzv,hzc,hone,_⟩:=hI.info
   have hz1:=hone (by rw [hd]; rfl)
   rw [hz] at hz1
   injection hz1 with hz1 _
   subst hz1
   refine ⟨.tuple #[z,.bool false],by unfold execOp; simp [ho,hv.flatv.1,Instr.typeAssert,run_underlying hD,zeroValue,typeInfo,hi',hzv],.tup (vs:=[z,.bool false]) (.cons (.one (.p (.v (hI.fl z (by rw [hz]; simp))))) (.cons (.one (.p (.v rfl))) .nil))⟩
  ·exact h.elim
 ·exact h.elim
end Go.Proofs.YtidkmoohgadjkaaGreat.E
namespace Go.Proofs.YtidkmoohgadjkaaGreat.E
open Go
variable {P:Program} {T:List TI} {t:List A} {σ:List Blk} {nx:Nat} {o:Oper} {K:Kont}
theorem qnq {cs:List C} {Kc:A→Prop} (h:cellsOf true cs Kc):Kc (.agg cs):=h
theorem qit {cs:List C} {Kc:A→Prop} (h:cellsOf false cs Kc):∃ c,cs=[c]∧Kc (.one c):=by
 have h':(fun cs:List C=>(match cs with | [c]=>Kc (.one c) | _=>False:Prop)) cs:=h
 clear h
 simp only at h'
 split at h'
 ·exact ⟨_,rfl,h'⟩
 ·exact h'.elim
theorem qlG {x:TI} {s off:Nat} (hI:InfoOk P s x) {cs:List C} {Kc:A→Prop} (h:cellsOf (isAgg x.d) (qfK (qeq cs off) x.sz) Kc) (hle:off + x.sz≤cs.length) :
  ∃ v,Kc v∧∀ {w S inj vs},F2 (VR w S inj) cs vs→∃ v',(part s vs.toArray off).run P w=.ok v' w∧VA w S inj v v':=by
 rw [qeQ,qa6] at h
 cases ha:isAgg x.d with
 | true =>
  rw [ha] at h
  refine ⟨_,qnq h,fun {w S inj vs} hf=>⟨.agg ((vs.drop off).take x.sz).toArray,?_,.one (.agg ((hf.drop off).take _))⟩⟩
  simp [part,hI.agg,ha,hI.size,List.extract_eq_take_drop,Nat.add_sub_cancel_left]
 | false =>
  rw [ha] at h
  obtain ⟨c,hc,hk⟩:=qit h
  refine ⟨_,hk,fun {w S inj vs} hf=>?_⟩
  have h0:cs[off]?=some c:=by
   have:=congrArg (·[0]?) hc
   rw [List.getElem?_take] at this
   split at this
   ·rw [List.getElem?_drop] at this; simpa using this
   ·simp at this
  obtain ⟨v,hv,hr⟩:=hf.get h0
  refine ⟨v,?_,.ofc hr⟩
  simp [part,hI.agg,ha,hv]
theorem quF (hT:TOk P T) {s:Nat} {x i:Operand} (ho:o.op=.index s x i) (h:qaJ T t σ nx (.index s x i) K):qM P t σ nx o K:=by
 have hmx:x∈o.op.operands:=by simp [ho,Op.operands]
 have hmi:i∈o.op.operands:=by simp [ho,Op.operands]
 dsimp only [qaJ] at h
 split at h
 ·rename_i k j hi0
  split at h
  ·rename_i n e cs hd hx
   have hI:=(hT s).desc (by rw [hd]; simp)
   have hD:=hI.d
   rw [hd] at hD
   obtain ⟨hb,h⟩:=bcF h
   simp only [Bool.and_eq_true] at hb
   have hin:=hb.1
   unfold inB at hin
   simp only [decide_eq_true_eq] at hin
   have hle:=Nat.le_of_ble_eq_true hb.2
   rw [qah] at hle
   have hoff:j.toNat * (ty T e).sz + (ty T e).sz≤cs.length:=by
    have:(j.toNat + 1) * (ty T e).sz≤n * (ty T e).sz:=Nat.mul_le_mul_right _ (by omega)
    rw [Nat.add_mul] at this; omega
   have hIe:InfoOk P e (ty T e):=qdI hT h (by simp; omega)
   obtain ⟨v,hk,hok⟩:=qlG hIe h hoff
   refine qab hk fun a f w S inj hop hf hi=>?_
   have hv:=hop x hmx
   have hvi:=hop i hmi
   rw [hx] at hv
   rw [hi0] at hvi
   obtain ⟨vs,hve,hvs⟩:=hv.agg'
   obtain ⟨v',hr,hv'⟩:=hok hvs
   refine ⟨v',?_,hv'⟩
   unfold execOp; simp [ho,hve,hvi.flatv.1,Instr.index,asIntOf,run_underlying hD,hin,hIe.size,hr]
  ·rename_i u hd hx
   have hD:=((hT s).desc (by rw [hd]; simp)).d
   rw [hd] at hD
   obtain ⟨hb,h⟩:=bcF h
   unfold inB at hb
   simp only [decide_eq_true_eq] at hb
   refine qbH h rfl fun a f w S inj hop hf hi=>?_
   have hv:=hop x hmx
   have hvi:=hop i hmi
   rw [hx] at hv
   rw [hi0] at hvi
   have hlt:j.toNat < u.size:=by omega
   unfold execOp; simp [ho,hv.flatv.1,hvi.flatv.1,Instr.index,asIntOf,run_underlying hD,hb.1,atS,hlt]
   rfl
  ·exact h.elim
 ·exact h.elim
theorem quG (hT:TOk P T) {s i:Nat} {x:Operand} (ho:o.op=.field s x i) (h:qaJ T t σ nx (.field s x i) K):qM P t σ nx o K:=by
 dsimp only [qaJ] at h
 split at h
 ·rename_i oo n cs fs hp hx hd
  have hI:=(hT s).desc (by rw [hd]; simp)
  obtain ⟨fields,fd,hu,hf',h1,h2,r,h3⟩:=qfs hd hp hI rfl
  split at h
  ·rename_i q f' r' hr
   rw [qa6,h3] at hr
   injection hr with hr _
   injection hr with _ hr
   subst hr
   obtain ⟨hle,h⟩:=bcF h
   have hle:=Nat.le_of_ble_eq_true hle
   rw [qah] at hle
   subst h2
   have hIe:InfoOk P fd.type (ty T fd.type):=qdI hT h (by simp; omega)
   obtain ⟨v,hk,hok⟩:=qlG hIe h hle
   refine qab hk fun a f w S inj hop hf hi=>?_
   have hv:=hop x (by simp [ho,Op.operands])
   rw [hx] at hv
   obtain ⟨vs,hve,hvs⟩:=hv.agg'
   obtain ⟨v',hr,hv'⟩:=hok hvs
   refine ⟨v',?_,hv'⟩
   unfold execOp; simp [ho,hve,Instr.field,run_underlying hu,hf',asAgg,h1,hr]
  ·exact h.elim
 ·exact h.elim
theorem qlH (hT:TOk P T) {s:Nat} {x i:Operand} (ho:o.op=.indexAddr s x i) (h:qaJ T t σ nx (.indexAddr s x i) K):qM P t σ nx o K:=by
 have hmx:x∈o.op.operands:=by simp [ho,Op.operands]
 have hmi:i∈o.op.operands:=by simp [ho,Op.operands]
 dsimp only [qaJ] at h
 split at h
 ·rename_i k j hi0
  split at h
  ·rename_i n e b p hd hx
   have hD:=((hT s).desc (by rw [hd]; simp)).d
   rw [hd] at hD
   split at h
   ·rename_i cs hb
    obtain ⟨hbb,h⟩:=bcF h
    simp only [Bool.and_eq_true] at hbb
    have hin:=hbb.1
    unfold inB at hin
    simp only [decide_eq_true_eq] at hin
    have hIe:=(hT e).known (by have:=Nat.le_of_ble_eq_true hbb.2; omega)
    refine qab h fun a f w S inj hop hf hi=>?_
    have hv:=hop x hmx
    have hvi:=hop i hmi
    rw [hx] at hv
    rw [hi0] at hvi
    obtain ⟨g,vs,e',hg,_⟩:=hi.box ((hf b (by simp)).trans hb)
    have he:=(hv.cellv (by simp)).ptrv hg
    refine ⟨.pointer (some ⟨g,p + j.toNat * (ty T e).sz,none⟩),?_,.ofc (.ptr (.inr ⟨g,hg,rfl⟩))⟩
    unfold execOp; simp [ho,he,hvi.flatv.1,Instr.indexAt,asIntOf,run_underlying hD,Instr.sureAddr,hin,hIe.size,qN]
   ·exact h.elim
  ·rename_i e b hd hx
   have hD:=((hT s).desc (by rw [hd]; simp)).d
   rw [hd] at hD
   have key:∀ {k':Nat} {l:List (List PC)},(lenB l j&&Nat.beq k' (ty T e).sz)=true→0 < k'→K (.one (.ep b k' j.toNat 0)) [] [] [b] →
     (∀ {w S inj f},Inv w S inj f→f b=look σ b→∃ g c,(inj b).val=some (.slice (some ⟨g,0,none⟩) l.length c,some g))→qM P t σ nx o K:=fun {k' l} hbb hk0 h hval=>by
    simp only [Bool.and_eq_true] at hbb
    have hk':=Nat.eq_of_beq_eq_true hbb.2
    obtain ⟨hj0,hrow⟩:=qdV hbb.1
    refine qab h fun a f w S inj hop hf hi=>?_
    have hv:=hop x hmx
    have hvi:=hop i hmi
    rw [hx] at hv
    rw [hi0] at hvi
    obtain ⟨g',c',hg0⟩:=hval hi (hf b (by simp))
    have hve:=(hv.cellv (by simp)).ownw hg0
    have hIe:=(hT e).known (by rw [←hk']; omega)
    have hjl:j < (l.length:Int):=by
     have:=hbb.1
     unfold lenB at this
     simp at this
     exact this.2
    refine ⟨.pointer (some ⟨g',j.toNat * k' + 0,none⟩),?_,.ofc (.ep (.inr ⟨g',_,_,hg0,rfl⟩))⟩
    unfold execOp; simp [ho,hve,hvi.flatv.1,Instr.indexAt,asIntOf,run_underlying hD,hj0,hjl,hIe.size,qN,hk']
   split at h
   ·rename_i k' l hb
    obtain ⟨hbb,h⟩:=bcF h
    have hne:l≠[]:=by
     have:=(qdV (by simp only [Bool.and_eq_true] at hbb; exact hbb.1)).2
     rintro rfl; simp at this
    by_cases hk0:0 < k'
    ·refine key hbb hk0 h fun {w S inj f} hi hf=>?_
     obtain ⟨v0,g0,hg0,hro⟩:=hi.rows (hf.trans hb)
     obtain ⟨g',cap,cur,e',hk0,e3,e4,_⟩:=qgj hro hne
     subst e3; subst e4
     exact ⟨g',cap,by rw [hg0]; rfl⟩
    ·refine ⟨_,_,_,_,h,fun a f w S inj next Q hop hf hi hfr hn=>?_⟩
     obtain ⟨v0,g0,hg0,hro⟩:=hi.rows ((hf b (by simp)).trans hb)
     obtain ⟨g',cap,cur,e',hk1,_⟩:=qgj hro hne
     exact absurd hk1 hk0
   ·rename_i k' q k2 l hb
    obtain ⟨hbb,h⟩:=bcF h
    by_cases hk0:0 < k'
    ·refine key hbb hk0 h fun {w S inj f} hi hf=>?_
     obtain ⟨v,g,fp,hg,cap,cur,e,ins,hn⟩:=hi.nest (hf.trans hb)
     exact ⟨g,cap,by rw [hg,hn.val]; rfl⟩
    ·refine ⟨_,_,_,_,h,fun a f w S inj next Q hop hf hi hfr hn=>?_⟩
     obtain ⟨v,g,fp,hg,cap,cur,e,ins,hn⟩:=hi.nest ((hf b (by simp)).trans hb)
     exact absurd (Nat.lt_of_le_of_lt (Nat.zero_le _) hn.ok) hk0
   ·rename_i k' q k2 i' l hb
    obtain ⟨hbb,h⟩:=bcF h
    by_cases hk0:0 < k'
    ·refine key hbb hk0 h fun {w S inj f} hi hf=>?_
     obtain ⟨v,g,fp,hg,cap,cur,e,ins,hn⟩:=hi.hole (hf.trans hb)
     exact ⟨g,cap,by rw [hg,hn.val]; rfl⟩
    ·refine ⟨_,_,_,_,h,fun a f w S inj next Q hop hf hi hfr hn=>?_⟩
     obtain ⟨v,g,fp,hg,cap,cur,e,ins,hn⟩:=hi.hole ((hf b (by simp)).trans hb)
     exact absurd (Nat.lt_of_le_of_lt (Nat.zero_le _) hn.ok) hk0
   ·exact h.elim
  ·rename_i e l hd hx
   have hD:=((hT s).desc (by rw [hd]; simp)).d
   rw [hd] at hD
   obtain ⟨hbb,h⟩:=bcF h
   obtain ⟨hj0,hrow⟩:=qdV hbb
   rw [qgF] at h
   obtain ⟨hrl,h⟩:=bcF h
   have hrl:=Nat.eq_of_beq_eq_true hrl
   rw [qah] at hrl
   have hjl:j < (l.length:Int):=by
    unfold lenB at hbb
    simp at hbb
    exact hbb.2
   refine qab h fun a f w S inj hop hf hi=>?_
   have hv:=hop x hmx
   have hvi:=hop i hmi
   rw [hx] at hv
   rw [hi0] at hvi
   generalize he:a.eval x=u at hv
   have hv:=hv.cellv (by simp)
   cases hv with | p hp =>
   cases hp with
   | @sl _ base cap k2 vals hcap hk2 hrw hbs hc hvv =>
    rcases hbs with rfl | ⟨g,p,rfl,hS⟩
    ·simp at hrow
    have hk3:k2=(ty T e).sz:=by rw [←hrl]; exact (hrw _ (List.mem_of_getElem? hrow)).symm
    subst hk3
    have hIe:=(hT e).known (by omega)
    refine ⟨.pointer (some ⟨g,p + j.toNat * (ty T e).sz,none⟩),?_,.ofc (.rp (fun m=>vals j.toNat m) hS (fun m hm=>hc g p rfl _ m (by omega) (by omega)) (fun m c hm=>hvv _ m _ c hrow hm))⟩
    unfold execOp; simp [ho,he,hvi.flatv.1,Instr.indexAt,asIntOf,run_underlying hD,hj0,hjl,hIe.size,qN]
  ·exact h.elim
 ·exact h.elim
theorem qrx (off:Nat):∀ (us:List Value) (i:Nat) (cells:List Value),off + i + us.length≤cells.length →
  (us.zipIdx i).foldl (fun (cs:Array Value) x=>cs.setIfInBounds (off + x.2) x.1) cells.toArray=(cells.take (off + i)++us++cells.drop (off + i + us.length)).toArray
 | [],i,cells,h=>by simp
 | u::us,i,cells,h=>by
  simp at h
  rw [List.zipIdx_cons,List.foldl_cons]
  have:=qrx off us (i + 1) (cells.set (off + i) u) (by simp; omega)
  simp only [List.setIfInBounds_toArray]
  rw [this]
  congr 1
  have e1:(cells.set (off + i) u).take (off + (i + 1))=cells.take (off + i)++[u]:=by
   rw [←Nat.add_assoc,List.take_succ_eq_append_getElem (by simp; omega),List.take_set_of_le (Nat.le_refl _)]
   simp
  rw [e1,List.drop_set_of_lt (by omega)]
  simp [Nat.add_assoc,Nat.add_comm,Nat.add_left_comm]
theorem quH {place:Nat→Option (Nat × Nat)} {cells us:List Value} {i off n:Nat} {v:Value} {rest:List (Nat × Value)} (hp:place i=some (off,n)) (hv:v.cells=us.toArray) (hn:us.length=n) (hle:off + n≤cells.length) :
  Instr.fill place cells.toArray ((i,v)::rest)=Instr.fill place (cells.take off++us++cells.drop (off + us.length)).toArray rest:=by
 have hsf:=qrx off us 0 cells (by omega)
 simp only [Nat.add_zero] at hsf
 simp only [Instr.fill,hp,hv]
 rw [if_neg (by simp; omega)]
 have e:us.toArray.zipIdx.foldl (fun (cs:Array Value) x=>cs.setIfInBounds (off + x.2) x.1) cells.toArray=(us.zipIdx 0).foldl (fun (cs:Array Value) x=>cs.setIfInBounds (off + x.2) x.1) cells.toArray:=by simp
 rw [←hsf,←e]
theorem qku {at_ place:Nat→Option (Nat × Nat)} (hpl:∀ i q,at_ i=some q→place i=some q) (ps:List (Nat × A)):∀ {cs:List C} {Kc:List C→Prop},qut at_ ps cs Kc→∃ cs',Kc cs'∧cs'.length=cs.length ∧
  ∀ {w S inj pvs vs},F2 (fun (p:Nat × A) (q:Nat × Value)=>p.1=q.1∧VA w S inj p.2 q.2) ps pvs→F2 (VR w S inj) cs vs→∃ vs':List Value,Instr.fill place vs.toArray pvs=some vs'.toArray∧F2 (VR w S inj) cs' vs':=by
 induction ps with
 | nil=>intro cs Kc h; exact ⟨cs,h,rfl,fun {w S inj pvs vs} hp hv=>by cases hp; exact ⟨vs,rfl,hv⟩⟩
 | cons p ps ih =>
  intro cs Kc h
  have h':(fun q:Option (Nat × Nat)=>(match q with
   | some (o,n)=>qhC p.2 fun pc=>qw (Nat.beq (lenR pc) n&&Nat.ble (o + n) (lenR cs)) (qut at_ ps (qdF cs o pc) Kc) False
   | none=>False:Prop)) (at_ p.1):=h
  cases hq:at_ p.1 with
  | none=>rw [hq] at h'; exact h'.elim
  | some q =>
   obtain ⟨oo,n⟩:=q
   rw [hq] at h'
   obtain ⟨pc,hpc,h2⟩:=qgi h'
   obtain ⟨hb,h2⟩:=bcF h2
   simp only [Bool.and_eq_true] at hb
   have hn:=Nat.eq_of_beq_eq_true hb.1
   have hle:=Nat.le_of_ble_eq_true hb.2
   rw [qah] at hn hle
   obtain ⟨cs',hk,hl,hok⟩:=ih h2
   rw [qfM _ _ _ (by omega)] at hl hok
   refine ⟨cs',hk,by rw [hl]; simp; omega,fun {w S inj pvs vs} hp hv=>?_⟩
   cases hp with
   | @cons _ q _ pvs hpq hps =>
    obtain ⟨i,v⟩:=q
    obtain ⟨hi,hv2⟩:=hpq
    simp only at hi hv2
    obtain ⟨us,hus,hfu⟩:=qgU hv2 hpc
    rw [quH (by rw [←hi]; exact hpl _ _ hq) hus (by rw [←hfu.len]; exact hn) (by rw [←hv.len]; exact hle)]
    have hul:us.length=pc.length:=hfu.len.symm
    exact hok hps (by rw [←hul]; exact ((hv.take oo).app hfu).app (hv.drop _))
theorem qry {w S inj} {a:Act} (l:List (Nat × Operand)) (h:∀ x,x∈l.map Prod.snd→VA w S inj (opd t x) (a.eval x)) :
  F2 (fun (p:Nat × A) (q:Nat × Value)=>p.1=q.1∧VA w S inj p.2 q.2) (l.map fun p=>(p.1,opd t p.2)) (l.map fun p=>(p.1,a.eval p.2)):=by
 induction l with
 | nil=>exact .nil
 | cons x l ih=>exact .cons ⟨rfl,h _ (by simp)⟩ (ih fun y hy=>h y (by simp at hy ⊢; exact .inr hy))
theorem qh6 {s:Nat} (hI:InfoOk P s (ty T s)) {w S inj}:F2 (VR w S inj) (qkh T s) (ty T s).z:=by
 rw [qkh,qay]
 refine F2.of_get (by simp) fun i a b ha hb=>?_
 rw [List.getElem?_map,Option.map_eq_some_iff] at ha
 obtain ⟨x,hx,rfl⟩:=ha
 rw [hx] at hb; injection hb with hb; subst hb
 exact .p (.v (hI.fl x (List.mem_of_getElem? hx)))
theorem qjE {T:List TI} (hT:TOk P T) (w:World):∀ (fs:List Field),(∀ f∈fs,qin (ty T f.type).d=true) →
  (fs.mapM fun f=>(do pure (f.offset,←sizeOf f.type):Sem (Nat × Nat))).run P w=.ok (fs.map fun f=>(f.offset,(ty T f.type).sz)) w
 | [],_=>rfl
 | f::fs,h=>by
  have hI:=(hT f.type).desc (fun e=>by have:=h f (by simp); rw [e] at this; cases this)
  simp only [List.mapM_cons,Sem.run_bind,hI.size,Result.andThen_ok,Sem.run_pure,qjE hT w fs (fun g hg=>h g (by simp [hg])),List.map_cons]
theorem quI (hT:TOk P T) {s:Nat} {ps:Array (Nat × Operand)} (ho:o.op=.build s ps) (h:qaJ T t σ nx (.build s ps) K):qM P t σ nx o K:=by
 dsimp only [qaJ] at h
 obtain ⟨hkn,h⟩:=bcF h
 have hops:∀ {a:Act} {w S inj},(∀ x,x∈o.op.operands→VA w S inj (opd t x) (a.eval x))→F2 (fun (p:Nat × A) (q:Nat × Value)=>p.1=q.1∧VA w S inj p.2 q.2) (mapR (fun p=>(p.1,opd t p.2)) ps.toList) (ps.toList.map fun p=>(p.1,a.eval p.2)):=fun {a w S inj} hop=>by
  rw [qay]
  exact qry _ fun x hx=>hop x (by simpa [ho,Op.operands] using hx)
 unfold qv8 at hkn
 split at hkn
 ·rename_i fs hd
  have hI:=(hT s).desc (by rw [hd]; simp)
  have hD:=hI.d
  rw [hd] at hD
  obtain ⟨fields,hu,hm⟩:=hD
  rw [qeh,List.all_eq_true] at hkn
  have hpl:∀ i q,qgT T s i=some q→(fun i=>(fields.map fun f=>(f.offset,(ty T f.type).sz))[i]?) i=some q:=fun i q hq=>by
   obtain ⟨oo,n⟩:=q
   obtain ⟨fields',fd,hu',hf',h1,h2,_⟩:=qfs hd hq hI rfl
   rw [hu] at hu'; injection hu' with hu'; injection hu' with hu'; subst hu'
   simp [hf',h1,h2]
  obtain ⟨cs',hk,hl,hok⟩:=qku hpl _ h
  refine qab hk fun a f w S inj hop hf hi=>?_
  obtain ⟨vs',hfill,hvs'⟩:=hok (hops hop) (qh6 hI)
  obtain ⟨i,zv,hi',_,_,hz,hc,_⟩:=hI.info
  have hms:=qjE hT w fields.toList (fun f hf=>hkn (f.offset,f.type) (by rw [←hm]; exact List.mem_map.2 ⟨f,hf,rfl⟩))
  refine ⟨.agg vs'.toArray,?_,.one (.agg hvs')⟩
  unfold execOp
  simp only [ho,Instr.build,Sem.run_bind,zeroValue,typeInfo,run_program,Result.andThen_ok,hi',hz,Sem.run_pure,run_underlying hu]
  rw [Array.mapM_eq_mapM_toList]
  simp only [Sem.run_map,hms,Result.andThen_ok]
  rw [←hc] at hfill
  simp only [Array.toArray_toList] at hfill
  have e:(fun i:Nat=>(List.map (fun f=>(f.offset,(ty T f.type).sz)) fields.toList).toArray[i]?)=(fun i:Nat=>(fields.map fun f=>(f.offset,(ty T f.type).sz))[i]?):=by
   funext i; simp
  rw [Array.toList_map,e,hfill]
  rfl
 ·rename_i n e hd
  have hI:=(hT s).desc (by rw [hd]; simp)
  have hD:=hI.d
  rw [hd] at hD
  have hIe:=(hT e).desc (fun he=>by rw [he] at hkn; cases hkn)
  have hpl:∀ i q,qgT T s i=some q→(fun i=>some (i * (ty T e).sz,(ty T e).sz)) i=some q:=fun i q hq=>by
   unfold qgT at hq; rw [hd] at hq; exact hq
  obtain ⟨cs',hk,hl,hok⟩:=qku hpl _ h
  refine qab hk fun a f w S inj hop hf hi=>?_
  obtain ⟨vs',hfill,hvs'⟩:=hok (hops hop) (qh6 hI)
  obtain ⟨i,zv,hi',_,_,hz,hc,_⟩:=hI.info
  refine ⟨.agg vs'.toArray,?_,.one (.agg hvs')⟩
  rw [←hc] at hfill
  simp only [Array.toArray_toList] at hfill
  unfold execOp
  simp [ho,Instr.build,zeroValue,typeInfo,hi',hz,run_underlying hD,hIe.size,hfill]
 ·cases hkn
end Go.Proofs.YtidkmoohgadjkaaGreat.E
