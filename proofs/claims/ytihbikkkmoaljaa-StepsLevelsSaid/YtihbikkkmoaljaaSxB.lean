/- The executor: operations, regions, code. -/
import Derived.Test.YtihbikkkmoaljaaSxA
namespace Go.Sx
open Go Go.RowKit
inductive Ex where
 | normal
 | exit (n : Nat)
 | ret
inductive LS where
 | ready
 | busy
 | done (x : Ex)
inductive BK where
 | cl
 | vec (e : Ty) (l : List e.D)
 | mp (kd : IntKind) (ks : List Int) (vs : List LV)
 | lrec (ps : Array Tmp) (asg body : Code) (st : LS)
 | st (e : Ty) (l : List e.D)
 | dead
structure Blk where
 c : List LV
 t : TypeId
 k : BK
 p : Bool
def Blk.isCl (b : Blk) : Bool :=
 match b.k with
 | .cl => true
 | _ => false
abbrev Globs := Nat → Option (Nat × (Nat → Value))
abbrev Specs := FuncId → Option (List LV → T LV)
def pl : LV → Option Value
 | .v x => some x
 | .bl b => some (.bool b)
 | .ki k n => some (.int k n)
 | .fn f [] => some (.func (.func f) #[] #[])
 | _ => none
def plL : List LV → Option (List Value)
 | [] => some []
 | x :: xs => match pl x, plL xs with
  | some y, some ys => some (y :: ys)
  | _, _ => none
def norm : LV → LV
 | .bl b => .v (.bool b)
 | .ki k n => .v (.int k n)
 | x => x
def mkAgg (l : List LV) : LV := match plL l with | some ys => .v (.agg ys.toArray) | none => .agg (l.map norm)
def mkTup (l : List LV) : LV := match plL l with | some ys => .v (.tuple ys.toArray) | none => .tup (l.map norm)
def oneB : Value → Bool
 | .agg _ => false
 | .tuple _ => false
 | _ => true
def isCell : LV → Bool
 | .v x => oneB x
 | .agg _ => false
 | .tup _ => false
 | .junk => false
 | _ => true
def cellsL : LV → Option (List LV)
 | .v x => if x.cells.toList.all oneB then some (x.cells.toList.map .v) else none
 | .agg l => if l.all isCell then some l else none
 | .tup _ => none
 | .junk => none
 | x => some [x]
def sizeT (P : Program) (t : TypeId) : Option Nat := (P.info? t).map (·.size)
def zeroT (P : Program) (t : TypeId) : Option Value := (P.info? t).bind (·.zero)
def aggT (P : Program) (t : TypeId) : Option Bool := (P.underlying t).map fun | .struct _ => true | .array _ _ => true | _ => false
def evalL (G : Globs) (F : List LV) : Operand → LV
 | .tmp t => F.getD t .junk
 | .const x => match x with | .bool b => .bl b | .int k n => .ki k n | y => .v y
 | .global g => match G g with | some (n, f) => .xq n (fun j => .v (f j)) | none => .junk
 | .func f => .fn f []
def setAt (l : List LV) (off : Nat) (cs : List LV) : List LV := l.take off ++ cs ++ l.drop (off + cs.length)
def decI (k : IntKind) : LV → Option Int
 | .v (.int k' n) => if k' = k then some n else none
 | .ki k' n => if k' = k then some n else none
 | _ => none
def decB : LV → Option Bool
 | .v (.bool b) => some b
 | .bl b => some b
 | _ => none
def decS : LV → Option ByteArray
 | .v (.string s) => some s
 | _ => none
def tyEq : (a b : Ty) → Option (PLift (a = b))
 | .int k, .int k' => if h : k = k' then some ⟨by rw [h]⟩ else none
 | .bool, .bool => some ⟨rfl⟩
 | .str, .str => some ⟨rfl⟩
 | .sl x, .sl y => match tyEq x y with
  | some ⟨h⟩ => some ⟨by rw [h]⟩
  | none => none
 | .pair x y, .pair x' y' => match tyEq x x', tyEq y y' with
  | some ⟨h⟩, some ⟨h'⟩ => some ⟨by rw [h, h']⟩
  | _, _ => none
 | _, _ => none
def castL {a b : Ty} (h : a = b) (l : List a.D) : List b.D := h ▸ l
def decX (e : Ty) : LV → Option (List e.D)
 | .xl e' l => match tyEq e' e with
  | some ⟨h⟩ => some (castL h l)
  | none => none
 | .v (.slice none 0 0) => some []
 | _ => none
def hd1 {α : Type} (f : LV → Option α) : List LV → Option α
 | [x] => f x
 | _ => none
def decL : (t : Ty) → List LV → Option t.D
 | .int k, l => hd1 (decI k) l
 | .bool, l => hd1 decB l
 | .str, l => hd1 decS l
 | .sl e, l => hd1 (decX e) l
 | .pair a b, l => match decL a (l.take a.n), decL b (l.drop a.n) with
  | some x, some y => some (x, y)
  | _, _ => none
def loadL (P : Program) (H : List Blk) (t : TypeId) (x : LV) : T LV :=
 match aggT P t, sizeT P t with
 | some true, some n =>
  match x with
  | .own k off => match H[k]? with
   | some b => if b.isCl = true ∧ off + n ≤ b.c.length then .ok (mkAgg ((b.c.drop off).take n)) else .no
   | none => .no
  | .xq m f => if n ≤ m then .ok (mkAgg ((List.range n).map f)) else .no
  | .op k es i j => match H[k]? with
   | some ⟨_, _, .vec e l, _⟩ => if e.n = es ∧ j + n ≤ es then .req (i < List.length l) (.ok (mkAgg (((encL e (l.getD i e.dflt)).drop j).take n))) else .no
   | _ => .no
  | _ => .no
 | some false, _ =>
  match x with
  | .own k off => match H[k]? with
   | some b => if b.isCl = true then (match b.c[off]? with
    | some y => .ok y
    | none => .no) else .no
   | none => .no
  | .xq m f => if 0 < m then .ok (f 0) else .no
  | .op k es i j => match H[k]? with
   | some ⟨_, _, .vec e l, _⟩ => if e.n = es then .req (i < List.length l) (match (encL e (l.getD i e.dflt))[j]? with
    | some y => .ok y
    | none => .no) else .no
   | _ => .no
  | _ => .no
 | _, _ => .no
def storeL (P : Program) (H : List Blk) (t : TypeId) (x y : LV) : T (List Blk) :=
 match sizeT P t, cellsL y with
 | some n, some cs => match x with
  | .own k off => match H[k]? with
   | some b => if b.isCl = true ∧ b.p = false ∧ cs.length = n ∧ off + n ≤ b.c.length then .ok (H.set k ⟨setAt b.c off cs, b.t, b.k, b.p⟩) else .no
   | none => .no
  | .op k es i j => match H[k]? with
   | some ⟨_, bt, .vec e l, false⟩ => if e.n = es ∧ cs.length = n ∧ j + n ≤ es then .req (i < List.length l) (match decL e (setAt (encL e (l.getD i e.dflt)) j cs) with
    | some d => .ok (H.set k ⟨[], bt, .vec e (l.set i d), false⟩)
    | none => .no) else .no
   | _ => .no
  | _ => .no
 | _, _ => .no
def fieldL (P : Program) (s : TypeId) (x : LV) (i : Nat) : T LV :=
 match P.underlying s with
 | some (.struct fs) => match fs[i]? with
  | some f => match sizeT P f.type with
   | some (m + 1) => match x with
    | .own k off => .ok (.own k (off + f.offset))
    | .op k es i j => .ok (.op k es i (j + f.offset))
    | .xq n g => if f.offset + (m + 1) ≤ n then .ok (.xq (n - f.offset) (fun j => g (f.offset + j))) else .no
    | _ => .no
   | _ => .no
  | none => .no
 | _ => .no
def fldL (P : Program) (t : TypeId) (l : List LV) (i : Nat) : T LV :=
 match P.underlying t with
 | some (.struct fs) => match fs[i]? with
  | some f => match aggT P f.type, sizeT P f.type with
   | some true, some n => if f.offset + n ≤ l.length then .ok (mkAgg ((l.drop f.offset).take n)) else .no
   | some false, _ => match l[f.offset]? with
    | some y => .ok y
    | none => .no
   | _, _ => .no
  | none => .no
 | _ => .no
def chain (n : Int) (g : Nat → LV) : Nat → Nat → T LV
 | 0, _ => .no
 | m + 1, j => .br (n == (j : Int)) (.ok (g j)) (chain n g m (j + 1))
def isKi : LV → Bool
 | .ki _ _ => true
 | _ => false
def addN : Nat → Nat → Nat
 | 0, n => n
 | m + 1, n => m + 1 + n
theorem addN_eq : ∀ (m n : Nat), addN m n = m + n
 | 0, n => by simp [addN]
 | m + 1, n => rfl
def indexL (P : Program) (t : TypeId) (x : LV) (c : Bool) (i : LV) : T LV :=
 match pl i with
 | some (.int _ n) => match P.underlying t with
  | some (.array len e) => match sizeT P e with
   | some (m + 1) => match x with
    | .op k es i j => if c then (if 0 ≤ n ∧ n < len then .ok (.op k es i (j + n.toNat * (m + 1))) else .no) else chain n (fun q => .op k es i (j + q * (m + 1))) len 0
    | .own k off => if c then (if 0 ≤ n ∧ n < len then .ok (.own k (off + n.toNat * (m + 1))) else .no) else chain n (fun j => .own k (off + j * (m + 1))) len 0
    | .xq q g => if len * (m + 1) ≤ q then (if c then (if 0 ≤ n ∧ n < len then .ok (.xq (m + 1) (fun j => g (n.toNat * (m + 1) + j))) else .no) else .req (0 ≤ n ∧ n < (len : Int)) (.ok (.xq (m + 1) (fun j => g (n.toNat * (m + 1) + j))))) else .no
    | _ => .no
   | _ => .no
  | some (.slice e) => match sizeT P e, x with
   | some (m + 1), .xl e' l => if e'.n = m + 1 then .req (0 ≤ n ∧ n < (List.length l : Int)) (.ok (.xq (m + 1) (fun j => (encL e' (gx l n)).getD j .junk))) else .no
   | some (m + 1), .os k es off len => if es = m + 1 then .req (0 ≤ n ∧ n < (len : Int)) (.ok (.op k es (addN off n.toNat) 0)) else .no
   | some (m + 1), .oc k es off len _ => if es = m + 1 then (if c then (if 0 ≤ n ∧ n < (len : Int) then .ok (.own k ((off + n.toNat) * (m + 1))) else .no) else chain n (fun j => .own k ((off + j) * (m + 1))) len 0) else .no
   | _, _ => .no
  | _ => .no
 | _ => .no
def fillL (place : Nat → Option (Nat × Nat)) (cells : List LV) : List (Nat × LV) → Option (List LV)
 | [] => some cells
 | (i, x) :: rest => match place i, cellsL x with
  | some (off, size), some cs => if cs.length = size ∧ off + size ≤ cells.length then fillL place (setAt cells off cs) rest else none
  | _, _ => none
def placeT (P : Program) (t : TypeId) : Option (Nat → Option (Nat × Nat)) :=
 match P.underlying t with
 | some (.struct fields) => (fields.toList.mapM (fun f => (P.info? f.type).map fun i => (f.offset, i.size))).map fun ps => fun i => ps.toArray[i]?
 | some (.array _ e) => (P.info? e).map fun ie => fun i => some (i * ie.size, ie.size)
 | _ => none
def buildL (P : Program) (t : TypeId) (parts : List (Nat × LV)) : T LV :=
 match zeroT P t, placeT P t with
 | some z, some pf => match fillL pf (z.cells.toList.map .v) parts with
  | some cs => .ok (if parts.any (fun q => isKi q.2) then .agg cs else mkAgg cs)
  | none => .no
 | _, _ => .no
def evalN (G : Globs) (F : List LV) : Operand → LV
 | .const x => norm (evalL G F (.const x))
 | o => evalL G F o
def toX (H : List Blk) : Nat → LV → LV
 | 0, _ => .junk
 | d + 1, .own k off => match H[k]? with
  | some b => if b.isCl then .xq (b.c.length - off) (fun j => toX H d (b.c.getD (off + j) .junk)) else .junk
  | none => .junk
 | _ + 1, .os k es off n => match H[k]? with
  | some ⟨_, _, .vec e l, _⟩ => if e.n = es then .xl e ((l.drop off).take n) else .junk
  | _ => .junk
 | _ + 1, .op k es i j => match H[k]? with
  | some ⟨_, _, .vec e l, _⟩ => if e.n = es then .xq (es - j) (fun q => (encL e (l.getD i e.dflt)).getD (j + q) .junk) else .junk
  | _ => .junk
 | d + 1, .om k => match H[k]? with
  | some ⟨_, _, .mp kd ks vs, _⟩ => .mp kd ks (vs.map (toX H d))
  | _ => .junk
 | _ + 1, .v x => .v x
 | _ + 1, .bl x => .v (.bool x)
 | _ + 1, .ki k n => .v (.int k n)
 | d + 1, .agg l => .agg (l.map (toX H d))
 | d + 1, .tup l => .tup (l.map (toX H d))
 | d + 1, .fn f l => .fn f (l.map (toX H d))
 | _ + 1, .xq n f => .xq n f
 | _ + 1, .xl e l => .xl e l
 | d + 1, .mp kd ks vs => .mp kd ks (vs.map (toX H d))
 | _ + 1, .oc .. => .junk
 | _ + 1, .yld _ => .junk
 | _ + 1, .junk => .junk
def gseq {α : Type} (g : α → T Unit) : List α → T Unit
 | [] => .ok ()
 | x :: xs => (g x).bind fun _ => gseq g xs
def guardX (H : List Blk) : Nat → LV → T Unit
 | 0, _ => .ok ()
 | d + 1, .own k _ => match H[k]? with
  | some b => gseq (guardX H d) b.c
  | none => .ok ()
 | _ + 1, .os k _ off n => match H[k]? with
  | some ⟨_, _, .vec _ l, _⟩ => .req (off + n ≤ List.length l) (.ok ())
  | _ => .ok ()
 | _ + 1, .op k _ i _ => match H[k]? with
  | some ⟨_, _, .vec _ l, _⟩ => .req (i < List.length l) (.ok ())
  | _ => .ok ()
 | d + 1, .om k => match H[k]? with
  | some ⟨_, _, .mp _ _ vs, _⟩ => gseq (guardX H d) vs
  | _ => .ok ()
 | d + 1, .agg l => gseq (guardX H d) l
 | d + 1, .tup l => gseq (guardX H d) l
 | d + 1, .fn _ l => gseq (guardX H d) l
 | d + 1, .mp _ _ l => gseq (guardX H d) l
 | _ + 1, _ => .ok ()
mutual
def noOwn : LV → Bool
 | .own _ _ => false
 | .os .. => false
 | .op .. => false
 | .om _ => false
 | .oc .. => false
 | .yld _ => false
 | .agg l => noOwnL l
 | .tup l => noOwnL l
 | .fn _ l => noOwnL l
 | .mp _ _ l => noOwnL l
 | _ => true
def noOwnL : List LV → Bool
 | [] => true
 | x :: xs => noOwn x && noOwnL xs
end
/- Which own blocks a value names. -/
mutual
def owns : LV → List Nat
 | .own k _ => [k]
 | .os k _ _ _ => [k]
 | .op k _ _ _ => [k]
 | .om k => [k]
 | .oc k _ _ _ _ => [k]
 | .yld k => [k]
 | .agg l => ownsL l
 | .tup l => ownsL l
 | .fn _ l => ownsL l
 | .mp _ _ l => ownsL l
 | _ => []
def ownsL : List LV → List Nat
 | [] => []
 | x :: xs => owns x ++ ownsL xs
end
def Blk.owns (b : Blk) : List Nat := ownsL b.c ++ (match b.k with | .mp _ _ vs => ownsL vs | _ => [])
def reach (H : List Blk) : Nat → List Nat → List Nat → List Nat
 | 0, _, acc => acc
 | _ + 1, [], acc => acc
 | d + 1, k :: ks, acc => if acc.contains k then reach H d ks acc else reach H d (ks ++ (match H[k]? with | some b => b.owns | none => [])) (acc ++ [k])
def closedB (H : List Blk) (ks : List Nat) (l : List LV) : Bool :=
 (ownsL l).all ks.contains && ks.all (fun k => match H[k]? with | some b => b.owns.all ks.contains | none => false)
def pubGo (ks : List Nat) : Nat → List Blk → List Blk
 | _, [] => []
 | k, b :: bs => (if ks.contains k then ⟨b.c, b.t, b.k, true⟩ else b) :: pubGo ks (k + 1) bs
def isPl (x : LV) : Bool := (pl x).isSome
def onlyPl : T LV → T LV
 | .ok x => if isPl x then .ok x else .no
 | .br b t e => .br b (onlyPl t) (onlyPl e)
 | .req p t => .req p (onlyPl t)
 | .no => .no
def pickL (c a b : LV) : T LV :=
 match c with
 | .bl true => .ok a
 | .bl false => .ok b
 | .v (.bool g) => match norm a, norm b with
  | .v (.int k n), .v (.int k' m) => if k = k' then .ok (.v (.int k (if g then n else m))) else .no
  | .v (.bool p), .v (.bool q) => .ok (.v (.bool (if g then p else q)))
  | _, _ => .br g (.ok a) (.ok b)
 | _ => .no
def andL : List Bool → Bool
 | [] => true
 | [p] => p
 | p :: ps => p && andL ps
mutual
def eqV (P : Program) : Nat → TypeId → Value → Value → Option Bool
 | 0, _, _, _ => none
 | d + 1, t, x, y => match P.underlying t, x, y with
  | some (.int _), .int k a, .int k' b => if k = k' then some (a == b) else none
  | some .bool, .bool a, .bool b => some (a == b)
  | some .string, .string a, .string b => some (a == b)
  | some (.struct fs), .agg xs, .agg ys => if P.stoodInHeld t then none else (eqFs P d xs ys fs.toList).map andL
  | _, _, _ => none
def eqFs (P : Program) : Nat → Array Value → Array Value → List Field → Option (List Bool)
 | _, _, _, [] => some []
 | 0, _, _, _ :: _ => none
 | d + 1, xs, ys, f :: fs => if f.name = "_" then none else match pureRun P (part f.type xs f.offset), pureRun P (part f.type ys f.offset) with
  | some a, some b => match eqV P d f.type a b, eqFs P d xs ys fs with
   | some p, some ps => some (p :: ps)
   | _, _ => none
  | _, _ => none
end
def isEqOp : BinOp → Option Bool
 | .eql => some false
 | .neq => some true
 | _ => none
def eqArm (P : Program) (o : Op) (e : Operand → Value) : Option (Option Value) :=
 match o with
 | .binOp op t x y _ => match isEqOp op with
  | some neg => match e x, e y with
   | .agg xs, .agg ys => some (match pureRun P (eqGuard op t x y (.agg xs) (.agg ys)), eqV P 100 t (.agg xs) (.agg ys) with
    | some _, some b => some (.bool (match neg with | true => !b | false => b))
    | _, _ => none)
   | _, _ => none
  | none => none
 | _ => none
def genV (P : Program) (o : Oper) (e : Operand → Value) : Option Value :=
 match eqArm P o.op e with
 | some r => r
 | none => match pureRun P (execOp e o) with
  | some (.value y) => some y
  | _ => none
def isKn : LV → Bool
 | .ki _ _ => true
 | .bl _ => true
 | .v (.slice none _ _) => true
 | _ => false
def kn : Value → LV
 | .int k n => .ki k n
 | .bool b => .bl b
 | y => .v y
def genL (P : Program) (G : Globs) (F : List LV) (o : Oper) : T LV :=
 if o.op.operands.toList.all (fun x => isPl (evalL G F x)) then
  match genV P o (fun x => (pl (evalL G F x)).getD undef) with
  | some y => .ok (if o.op.operands.toList.all (fun x => isKn (evalL G F x)) then kn y else .v y)
  | none => .no
 else .no
def tyFs (r : TypeId → Option Ty) : List TypeId → Option Ty
 | [] => none
 | [t] => r t
 | t :: ts => match r t, tyFs r ts with
  | some a, some b => some (.pair a b)
  | _, _ => none
def tyOf (P : Program) : Nat → TypeId → Option Ty
 | 0, _ => none
 | m + 1, t => match P.underlying t with
  | some (.int k) => some (.int k)
  | some .bool => some .bool
  | some .string => some .str
  | some (.struct fs) => tyFs (tyOf P m) (fs.toList.map (·.type))
  | some (.array n e) => tyFs (tyOf P m) (List.replicate n e)
  | some (.slice e) => (tyOf P m e).map .sl
  | _ => none
def decN (e : Ty) : Nat → List LV → Option (List e.D)
 | 0, _ => some []
 | n + 1, cs => match decL e (cs.take e.n), decN e n (cs.drop e.n) with
  | some d, some r => some (d :: r)
  | _, _ => none
def litL (P : Program) (t : TypeId) (len : Nat) (parts : List (Nat × LV)) : T LV :=
 match P.underlying t with
 | some (.slice e) => match tyOf P 8 e, sizeT P e, zeroT P e with
  | some ty, some m, some z => if ty.n = m ∧ z.cells.size = m ∧ 0 < len * m ∧ len * m ≤ 2 ^ 24 then
    (match fillL (fun i => some (i * m, m)) ((List.range (len * m)).map (fun i => .v (z.cells[i % z.cells.size]!))) parts with
    | some cs => match decN ty len cs with
     | some l => .ok (.xl ty l)
     | none => .no
    | none => .no) else .no
  | _, _, _ => .no
 | _ => .no
def typedSl (P : Program) (t : TypeId) : Bool :=
 match P.underlying t with
 | some (.slice e) => (tyOf P 8 e).isSome
 | _ => false
def litC (P : Program) (H : List Blk) (t : TypeId) (len : Nat) (parts : List (Nat × LV)) : T (LV × List Blk) :=
 match P.underlying t with
 | some (.slice e) => match sizeT P e, zeroT P e with
  | some m, some z => if z.cells.size = m ∧ 0 < len * m ∧ len * m ≤ 2 ^ 24 then
    (match fillL (fun i => some (i * m, m)) ((List.range (len * m)).map (fun i => .v (z.cells[i % z.cells.size]!))) parts with
    | some cs => .ok (.oc H.length m 0 len len, H ++ [⟨cs, e, .cl, false⟩])
    | none => .no) else .no
  | _, _ => .no
 | _ => .no
def litO (P : Program) (H : List Blk) (t : TypeId) (len : Nat) (parts : List (Nat × LV)) : T (LV × List Blk) :=
 if closedB H (reach H 64 (ownsL (parts.map (·.2))) []) (parts.map (·.2)) then
  ((gseq (guardX H 6) (parts.map (·.2))).bind fun _ => litL P t len (parts.map fun q => (q.1, toX H 6 q.2))).bind fun y => .ok (y, pubGo (reach H 64 (ownsL (parts.map (·.2))) []) 0 H)
 else .no
def srcOf (H : List Blk) (e : Ty) : LV → T (List e.D)
 | .os k es off n => match H[k]? with
  | some ⟨_, _, .vec e' l, _⟩ => if e'.n = es then (match tyEq e' e with
   | some ⟨h⟩ => .req (off + n ≤ List.length l) (.ok (castL h ((l.drop off).take n)))
   | none => .no) else .no
  | _ => .no
 | x => match decX e x with
  | some l => .ok l
  | none => .no
def bytesT (P : Program) (t : TypeId) : Option Nat := (P.info? t).map (·.bytes)
def elemT (P : Program) (t : TypeId) : Option (TypeId × Ty × Nat × Nat) :=
 match P.underlying t with
 | some (.slice e) => match tyOf P 8 e, sizeT P e, bytesT P e with
  | some ty, some m, some by_ => if ty.n = m ∧ 0 < m then some (e, ty, m, by_) else none
  | _, _, _ => none
 | _ => none
def makeL (P : Program) (H : List Blk) (t : TypeId) (n c : LV) : T (LV × List Blk) :=
 match elemT P t, pl n, pl c with
 | some (e, ty, m, by_), some (.int .i64 n), some (.int .i64 c) => match zeroT P e with
  | some z => match decL ty (z.cells.toList.map .v) with
   | some d => if z.cells.size = m then .req (0 ≤ n ∧ n ≤ c ∧ by_ * c ≤ 2 ^ 48 ∧ c < 2 ^ 63) (.ok (.os H.length m 0 n.toNat, H ++ [⟨[], e, .vec ty (List.replicate n.toNat d), false⟩])) else .no
   | none => .no
  | none => .no
 | _, _, _ => .no
def emptyL (P : Program) (H : List Blk) (t : TypeId) : T (LV × List Blk) :=
 match elemT P t with
 | some (e, ty, m, _) => .ok (.os H.length m 0 0, H ++ [⟨[], e, .vec ty [], false⟩])
 | none => .no
def appendL (P : Program) (H : List Blk) (t tx : TypeId) (x y : LV) : T (LV × List Blk) :=
 match elemT P t with
 | some (e, ty, m, by_) => match P.underlying tx, zeroT P e with
  | some (.slice _), some z => if z.cells.size = m then (srcOf H ty y).bind (fun q => match x with
    | .v (.slice none 0 0) => .req ((List.length q : Int) * by_ ≤ 2 ^ 47 ∧ (List.length q : Int) < 2 ^ 62) (.ok (.os H.length m 0 (List.length q), H ++ [⟨[], e, .vec ty q, false⟩]))
    | .os k es off n => match H[k]? with
     | some ⟨_, bt, .vec e' l, false⟩ => match tyEq e' ty with
      | some ⟨h⟩ => if es = m ∧ bt = e then .req (off + n = List.length l ∧ ((n + List.length q : Nat) : Int) * by_ ≤ 2 ^ 47 ∧ ((n + List.length q : Nat) : Int) < 2 ^ 62)
        (.ok (.os H.length m 0 (n + List.length q), H.set k ⟨[], e, .dead, false⟩ ++ [⟨[], e, .vec ty (castL h (l.drop off) ++ q), false⟩])) else .no
      | none => .no
     | _ => .no
    | _ => .no) else .no
  | _, _ => .no
 | none => .no
def sliceL (P : Program) (t : TypeId) (x : LV) (lo hi : Option LV) : T LV :=
 match P.underlying t with
 | some (.slice e) => match sizeT P e with
  | some (m + 1) =>
   let b (o : Option LV) (d : Int) : Option Int := match o with
    | none => some d
    | some y => match pl y with
     | some (.int _ n) => some n
     | _ => none
   match x with
   | .xl ty l => match b lo 0, b hi (List.length l : Int) with
    | some i, some j => if ty.n = m + 1 then .req (0 ≤ i ∧ i ≤ j ∧ j ≤ (List.length l : Int)) (.ok (.xl ty ((l.drop i.toNat).take (j.toNat - i.toNat)))) else .no
    | _, _ => .no
   | .os k es off n => match b lo 0, b hi (n : Int) with
    | some i, some j => if es = m + 1 then .req (0 ≤ i ∧ i ≤ j ∧ j ≤ (n : Int)) (.ok (.os k es (off + i.toNat) (j.toNat - i.toNat))) else .no
    | _, _ => .no
   | _ => .no
  | _ => .no
 | _ => .no
def lookChain (kd : IntKind) (n : Int) (z : Value) : List Int → List LV → T LV
 | k :: ks, v :: vs => .br (n == k) (.ok v) (lookChain kd n z ks vs)
 | _, _ => .ok (.v z)
def keyV : (e : Ty) → e.D → Value
 | .int k, n => .int k n
 | .str, s => .string s
 | .bool, b => .bool b
 | .sl _, _ => undef
 | .pair _ _, _ => undef
def keyD : (e : Ty) → Value → Option e.D
 | .int k, v => match v with
  | .int k' n => if k' = k then some n else none
  | _ => none
 | .str, v => match v with
  | .string s => some s
  | _ => none
 | _, _ => none
def memD : (e : Ty) → e.D → List e.D → Bool
 | .int _, x, l => List.contains (α := Int) l x
 | .str, x, l => List.contains (α := ByteArray) l x
 | _, _, _ => false
def setT (P : Program) (t : TypeId) : Option Ty :=
 match P.underlying t with
 | some (.map kt et) => match P.underlying et, P.underlying kt, zeroT P et with
  | some .bool, some (.int k), some (.bool false) => some (.int k)
  | some .bool, some .string, some (.bool false) => some .str
  | _, _, _ => none
 | _ => none
def lookS (P : Program) (t : TypeId) (e : Ty) (l : List e.D) (i : LV) : T LV :=
 match setT P t, pl i with
 | some e', some v => match tyEq e' e, keyD e v with
  | some _, some d => .ok (.v (.bool (memD e d l)))
  | _, _ => .no
 | _, _ => .no
def lookM (P : Program) (H : List Blk) (t : TypeId) (x i : LV) : T LV :=
 match P.underlying t with
 | some (.map kt et) => match P.underlying kt, zeroT P et, pl i with
  | some (.int kd), some z, some (.int kd' n) => if kd' = kd ∧ oneB z = true then (match x with
   | .mp kd2 ks vs => if kd2 = kd ∧ ks.length = vs.length then lookChain kd n z ks vs else .no
   | .om k => match H[k]? with
    | some ⟨_, _, .mp kd2 ks vs, _⟩ => if kd2 = kd ∧ ks.length = vs.length then lookChain kd n z ks vs else .no
    | _ => .no
   | _ => .no) else .no
  | _, _, _ => .no
 | _ => .no
def lookL (P : Program) (H : List Blk) (t : TypeId) (x i : LV) : T LV :=
 match x with
 | .om k => match H[k]? with
  | some ⟨_, _, .st e l, _⟩ => lookS P t e l i
  | _ => lookM P H t x i
 | _ => lookM P H t x i
def insM (P : Program) (H : List Blk) (t : TypeId) (x i y : LV) : T (List Blk) :=
 match P.underlying t with
 | some (.map kt _) => match P.underlying kt, pl i, x with
  | some (.int kd), some (.int kd' n), .om k => match H[k]? with
   | some ⟨_, bt, .mp kd2 ks vs, false⟩ => if kd' = kd ∧ kd2 = kd ∧ ks.length = vs.length ∧ ks.contains n = false then .ok (H.set k ⟨[], bt, .mp kd (ks ++ [n]) (vs ++ [y]), false⟩) else .no
   | _ => .no
  | _, _, _ => .no
 | _ => .no
def insL (P : Program) (H : List Blk) (t : TypeId) (x i y : LV) : T (List Blk) :=
 match x with
 | .om k => match H[k]? with
  | some ⟨_, bt, .st e l, false⟩ => match setT P t, pl i, y with
   | some e', some v, .bl true => match tyEq e' e, keyD e v with
    | some _, some d => .req (memD e d l = false) (.ok (H.set k ⟨[], bt, .st e (l ++ [d]), false⟩))
    | _, _ => .no
   | _, _, _ => .no
  | _ => insM P H t x i y
 | _ => insM P H t x i y
def kindOf (P : Program) (t : TypeId) : Option IntKind :=
 match P.underlying t with
 | some (.map kt _) => match P.underlying kt with
  | some (.int kd) => some kd
  | _ => none
 | _ => none
def plainTy (P : Program) : Nat → TypeId → Bool
 | 0, _ => false
 | m + 1, t => match P.underlying t with
  | some (.int _) | some .bool | some .string => true
  | some (.struct fs) => fs.toList.all (fun f => plainTy P m f.type)
  | some (.array _ e) => plainTy P m e
  | some (.tuple ts) => ts.toList.all (plainTy P m)
  | _ => false
def byI (s : ByteArray) (n : Int) : Int := (((s[n.toNat]?).getD 0).toNat : Int)
def callG (P : Program) (Γ : Specs) (H : List Blk) (o : Oper) (g : FuncId) (l : List LV) : T (LV × List Blk) :=
 match P.funcs[g]? with
 | some fn => if fn.body.isSome && !(fn.name == "runtime.NumGoroutine") then
   match Γ g with
   | some S =>
    if noOwnL l then (S l).bind fun y => .ok (y, H)
    else if plainTy P 8 o.type then ((gseq (guardX H 6) l).bind fun _ => onlyPl (S (l.map (toX H 6)))).bind fun y => .ok (y, H)
    else if closedB H (reach H 64 (ownsL l) []) l then ((gseq (guardX H 6) l).bind fun _ => S (l.map (toX H 6))).bind fun y => .ok (y, pubGo (reach H 64 (ownsL l) []) 0 H) else .no
   | none => .no
  else .no
 | none => .no
def metOf (P : Program) (x : LV) (name : String) : Option (FuncId × Value) :=
 match pl x with
 | some (.iface t v) => pureRun P (method (P.types.size + Made.depth) t v name)
 | _ => none
def opx (P : Program) (G : Globs) (Γ : Specs) (F : List LV) (H : List Blk) (o : Oper) : T (LV × List Blk) :=
 match o.op with
 | .select _ _ => .no
 | .move x => .ok (evalL G F x, H)
 | .assign x => .ok (evalL G F x, H)
 | .pick c a b => (pickL (evalL G F c) (evalL G F a) (evalL G F b)).bind fun y => .ok (y, H)
 | .alloc t => match zeroT P t with
  | some z => match cellsL (.v z) with
   | some cs => .ok (.own H.length 0, H ++ [⟨cs, t, .cl, false⟩])
   | none => .no
  | none => .no
 | .box t x => match cellsL (evalL G F x) with
  | some cs => .ok (.own H.length 0, H ++ [⟨cs, t, .cl, false⟩])
  | none => .no
 | .load t x => (loadL P H t (evalL G F x)).bind fun y => .ok (y, H)
 | .store t x y => (storeL P H t (evalL G F x) (evalL G F y)).bind fun H' => .ok (.v undef, H')
 | .fieldAddr s x i => (fieldL P s (evalL G F x) i).bind fun y => .ok (y, H)
 | .indexAddr t x i => (indexL P t (evalL G F x) (isKi (evalL G F i)) (evalL G F i)).bind fun y => .ok (y, H)
 | .build t parts => (buildL P t (parts.toList.map fun q => (q.1, evalN G F q.2))).bind fun y => .ok (y, H)
 | .buildSlice t len parts => if len = 0 then (if parts.toList.isEmpty then emptyL P H t else .no) else if typedSl P t then (if noOwnL ((parts.toList.map fun q => (q.1, evalL G F q.2)).map (·.2)) then (litL P t len (parts.toList.map fun q => (q.1, evalL G F q.2))).bind fun y => .ok (y, H) else litO P H t len (parts.toList.map fun q => (q.1, evalL G F q.2))) else litC P H t len (parts.toList.map fun q => (q.1, evalL G F q.2))
 | .makeSlice t n c => makeL P H t (evalL G F n) (evalL G F c)
 | .slice t x lo hi none => match evalL G F x with
  | .v _ => (genL P G F o).bind fun y => .ok (y, H)
  | _ => (sliceL P t (evalL G F x) (lo.map (evalL G F)) (hi.map (evalL G F))).bind fun y => .ok (y, H)
 | .makeMap t none => match setT P t with
  | some e => .ok (.om H.length, H ++ [⟨[], t, .st e [], false⟩])
  | none => match kindOf P t with
   | some kd => .ok (.om H.length, H ++ [⟨[], t, .mp kd [] [], false⟩])
   | none => .no
 | .insert t m i x => (insL P H t (evalL G F m) (evalL G F i) (evalL G F x)).bind fun H' => .ok (.v undef, H')
 | .mapUpdate t m i x => (insL P H t (evalL G F m) (evalL G F i) (evalL G F x)).bind fun H' => .ok (.v undef, H')
 | .lookup t x i false => (lookL P H t (evalL G F x) (evalL G F i)).bind fun y => .ok (y, H)
 | .extract x i => match evalL G F x with
  | .tup l => match l[i]? with
   | some y => .ok (y, H)
   | none => .no
  | _ => (genL P G F o).bind fun y => .ok (y, H)
 | .field t x i => match evalL G F x with
  | .agg l => (fldL P t l i).bind fun y => .ok (y, H)
  | _ => (genL P G F o).bind fun y => .ok (y, H)
 | .makeFunc (.func f) first cap => if first.toList.isEmpty then .ok (.fn f (cap.toList.map (evalL G F)), H) else .no
 | .nilCheck x => match evalL G F x with
  | .own k off => .ok (.own k off, H)
  | .xq n f => .ok (.xq n f, H)
  | .fn f l => .ok (.fn f l, H)
  | _ => (genL P G F o).bind fun y => .ok (y, H)
 | .binOp .quo _ x y _ => match pl (evalL G F x), pl (evalL G F y) with
  | some (.int k n), some (.int k' m) => if k = k' then .req (m ≠ 0) (.ok (.v (.int k (k.wrap (n.tdiv m))), H)) else .no
  | _, _ => .no
 | .binOp .rem _ x y _ => match pl (evalL G F x), pl (evalL G F y) with
  | some (.int k n), some (.int k' m) => if k = k' then .req (m ≠ 0) (.ok (.v (.int k (n.tmod m)), H)) else .no
  | _, _ => .no
 | .binOp .shl _ x y _ => if isKi (evalL G F y) then (genL P G F o).bind fun y => .ok (y, H) else match pl (evalL G F x), pl (evalL G F y) with
  | some (.int k n), some (.int _ m) => .req (0 ≤ m) (.ok (.v (.int k (k.wrap (n * 2 ^ (min m.toNat k.bits)))), H))
  | _, _ => .no
 | .binOp .shr _ x y _ => if isKi (evalL G F y) then (genL P G F o).bind fun y => .ok (y, H) else match pl (evalL G F x), pl (evalL G F y) with
  | some (.int k n), some (.int _ m) => .req (0 ≤ m) (.ok (.v (.int k (n.fdiv (2 ^ (min m.toNat k.bits)))), H))
  | _, _ => .no
 | .index t x i => match P.underlying t, pl (evalL G F x), pl (evalL G F i) with
  | some .string, some (.string s), some (.int _ n) => .req (0 ≤ n ∧ n < (s.size : Int)) (.ok (.v (.int .u8 (byI s n)), H))
  | _, _, _ => .no
 | .call { callee := .value f, args, .. } => match evalL G F f with
  | .fn g cap => callG P Γ H o g (args.toList.map (fun x => norm (evalL G F x)) ++ cap)
  | _ => .no
 | .call { callee := .invoke r name, args, .. } => match metOf P (evalL G F r) name with
  | some (g, rv) => callG P Γ H o g (.v rv :: args.toList.map (fun x => norm (evalL G F x)))
  | none => .no
 | .call { callee := .builtin .append, args, argTypes } => match args.toList.map (evalL G F), argTypes.toList with
  | [x, y], [t, tx] => appendL P H t tx x y
  | _, _ => .no
 | .call { callee := .builtin .len, args, argTypes } => match args.toList.map (evalL G F), (argTypes[0]?).bind P.underlying with
  | [.os _ _ _ n], some (.slice _) => .ok (.v (.int .i64 n), H)
  | [.xl _ l], some (.slice _) => .ok (.v (.int .i64 (List.length l : Int)), H)
  | [.oc _ _ _ n _], some (.slice _) => .ok (.ki .i64 n, H)
  | _, _ => (genL P G F o).bind fun y => .ok (y, H)
 | _ => (genL P G F o).bind fun y => .ok (y, H)
def setF (F : List LV) : Option Tmp → LV → List LV
 | some d, x => F.set d x
 | none, _ => F
structure Hand where
 k : FuncId → List LV → List Blk → T (LV × List Blk)
 y : Nat → List LV → List Blk → T (LV × List Blk)
def noK : Hand := ⟨fun _ _ _ => .no, fun _ _ _ => .no⟩
def yldOf (G : Globs) (F : List LV) (o : Oper) : Option (Nat × List LV) :=
 match o.op with
 | .call { callee := .value f, args, .. } => match evalL G F f with
  | .yld k => some (k, args.toList.map (fun x => norm (evalL G F x)))
  | _ => none
 | _ => none
def callOf (G : Globs) (F : List LV) (o : Oper) : Option (FuncId × List LV) :=
 match o.op with
 | .call { callee := .value f, args, .. } => match evalL G F f with
  | .fn g cap => some (g, args.toList.map (fun x => norm (evalL G F x)) ++ cap)
  | _ => none
 | _ => none
def opk (P : Program) (G : Globs) (Γ : Specs) (K : Hand) (F : List LV) (H : List Blk) (o : Oper) : T (LV × List Blk) :=
 match callOf G F o with
 | some (g, l) => match Γ g with
  | some _ => opx P G Γ F H o
  | none => match P.funcs[g]? with
   | some fn => if fn.body.isSome && !(fn.name == "runtime.NumGoroutine") then K.k g l H else .no
   | none => .no
 | none => match yldOf G F o with
  | some (k, l) => K.y k l H
  | none => opx P G Γ F H o
def xlsOf (ty : Ty) : List LV → Option (List (List ty.D))
 | [] => some []
 | x :: xs => match x with
  | .xl e l => match tyEq e ty, xlsOf ty xs with
   | some ⟨h⟩, some r => some (castL h l :: r)
   | _, _ => none
  | _ => none
def ixld (P : Program) (G : Globs) (F : List LV) (H : List Blk) (o o2 : Oper) : Option (Int × Nat × LV) :=
 if o.guard.isNone && o2.guard.isNone then
  match o.op, o.dst, o2.op with
  | .indexAddr t x i, some d, .load t2 (.tmp d2) =>
   if d2 = d ∧ d < F.length ∧ aggT P t2 = some false then
    match P.underlying t, evalL G F x, evalL G F i with
    | some (.array len e), .own k off, .v (.int _ n) =>
     if sizeT P e = some 1 then
      match H[k]? with
      | some b =>
       if b.isCl = true ∧ off + len ≤ b.c.length then
        match (b.c.drop off).take len with
        | .xl ty l :: rest => match xlsOf ty (.xl ty l :: rest) with
         | some ls => some (n, len, .xl ty (ls.getD n.toNat []))
         | none => none
        | _ => none
       else none
      | none => none
     else none
    | _, _, _ => none
   else none
  | _, _, _ => none
 else none
def seqx (P : Program) (G : Globs) (Γ : Specs) (K : Hand) (ops : Array Oper) : List Oper → List LV → List Blk → T (List LV × List Blk)
 | [], F, H => .ok (F, H)
 | o :: os, F, H =>
  let go (F : List LV) : T (List LV × List Blk) := (opk P G Γ K F H o).bind fun q => seqx P G Γ K ops os (setF F o.dst q.1) q.2
  let pass (F : List LV) : T (List LV × List Blk) := seqx P G Γ K ops os (setF F o.dst (.v undef)) H
  match o.guard with
  | none => match os with
   | [] => go F
   | o2 :: os2 => match ixld P G F H o o2 with
    | some (n, len, y) => .req (0 ≤ n ∧ n < (len : Int)) (seqx P G Γ K ops os2 (setF (setF F o.dst .junk) o2.dst y) H)
    | none => go F
  | some (j, want) => match (ops[j]?).bind (·.dst) with
   | some d => match F.getD d .junk with
    | .bl b => if b = want then go F else pass F
    | .v (.bool g) => if want then .br g (go (F.set d (.bl true))) (pass (F.set d (.bl false))) else .br g (pass (F.set d (.bl true))) (go (F.set d (.bl false)))
    | .v (.tuple _) => pass F
    | _ => .no
   | none => .no
def nki : LV → LV
 | .ki k n => .v (.int k n)
 | x => x
def mergeV0 (b : Bool) : LV → LV → LV
 | .v (.int k n), .v (.int k' m) => if k = k' then .v (.int k (if b then n else m)) else .junk
 | .bl true, .bl false => .v (.bool b)
 | .bl false, .bl true => .v (.bool !b)
 | .bl true, .bl true => .bl true
 | .bl false, .bl false => .bl false
 | .v (.bool p), .bl false => .v (.bool (b && p))
 | .v (.bool p), .bl true => .v (.bool (!b || p))
 | .bl true, .v (.bool q) => .v (.bool (b || q))
 | .bl false, .v (.bool q) => .v (.bool (!b && q))
 | .v (.bool p), .v (.bool q) => .v (.bool (if b then p else q))
 | _, _ => .junk
def mergeV (b : Bool) (x y : LV) : LV := mergeV0 b (nki x) (nki y)
def memFree (P : Program) (o : Oper) : Bool :=
 match o.op with
 | .alloc _ | .box .. | .store .. | .makeSlice .. | .makeMap .. | .insert .. | .mapUpdate .. => false
 | .buildSlice .. => false
 | .call { callee := .builtin .append, .. } => false
 | .call { callee := .value _, .. } => plainTy P 8 o.type
 | .call { callee := .invoke .., .. } => plainTy P 8 o.type
 | _ => true
def memK (P : Program) (Γ : Specs) (o : Oper) : Bool :=
 memFree P o && (match o.op with
 | .call { callee := .value (.func g), .. } => (Γ g).isSome
 | .call { callee := .value _, .. } => false
 | _ => true)
def dsts (ops : List Oper) : List Nat := ops.filterMap (·.dst)
def gds (ops : Array Oper) : List Nat := ops.toList.filterMap fun o => o.guard.bind fun g => (ops[g.1]?).bind (·.dst)
def mergeF (ds : List Nat) (b : Bool) (F F1 F2 : List LV) : List LV := (List.range F.length).map fun i => if ds.contains i then mergeV b (F1.getD i .junk) (F2.getD i .junk) else F.getD i .junk
def mergeT (ds : List Nat) (F : List LV) (H : List Blk) : T (List LV × List Blk) → T (List LV × List Blk)
 | .ok x => .ok x
 | .no => .no
 | .req p t => .req p (mergeT ds F H t)
 | .br b t e => match mergeT ds F H t, mergeT ds F H e with
  | .ok x, .ok y => .ok (mergeF ds b F x.1 y.1, H)
  | t', e' => .br b t' e'
def regx (P : Program) (G : Globs) (Γ : Specs) (K : Hand) (ops : Array Oper) (F : List LV) (H : List Blk) : T (List LV × List Blk) :=
 if ops.toList.all (memK P Γ) then mergeT (dsts ops.toList) F H (seqx P G Γ K ops ops.toList F H) else seqx P G Γ K ops ops.toList F H
/-! Drawn regions: first what only looks (at no block that is stored to), in the order of the text; then stores, new blocks and what hangs on them. -/
def isSp (P : Program) (o : Oper) : Bool :=
 match o.op with
 | .alloc _ | .box .. | .store .. | .buildSlice .. | .makeSlice .. | .makeMap .. | .insert .. | .mapUpdate .. => true
 | .call { callee := .builtin .append, .. } => true
 | .call { callee := .value _, .. } => !plainTy P 8 o.type
 | .call { callee := .invoke .., .. } => !plainTy P 8 o.type
 | _ => false
def flagsGo (sp : Oper → Bool) : List Bool → List Oper → List Bool
 | fs, [] => fs
 | fs, o :: os => flagsGo sp (fs ++ [sp o || o.after.toList.any (fun e => Region.binds .any e && fs.getD e.on false)]) os
def isAsg (o : Oper) : Bool :=
 match o.op with
 | .assign _ => true
 | _ => false
def basesOf (H : List Blk) (ops : List Oper) (F : List LV) : Nat → Nat → List Nat
 | 0, _ => []
 | d + 1, t => match ops.find? (fun o => o.dst == some t && !isAsg o) with
  | some o => match o.op with
   | .fieldAddr _ (.tmp y) _ => basesOf H ops F d y
   | .indexAddr _ (.tmp y) _ => basesOf H ops F d y
   | .move (.tmp y) => basesOf H ops F d y
   | .nilCheck (.tmp y) => basesOf H ops F d y
   | .load _ (.tmp y) => (basesOf H ops F d y).flatMap fun k => match H[k]? with
    | some b => ownsL b.c
    | none => []
   | _ => []
  | none => match F.getD t .junk with
   | .own k _ => [k]
   | .op k _ _ _ => [k]
   | .os k _ _ _ => [k]
   | .om k => [k]
   | _ => []
def tracked (H : List Blk) (ops : List Oper) (F : List LV) : List Nat := ops.flatMap fun o => match o.op with
 | .store _ (.tmp x) _ => basesOf H ops F 12 x
 | .insert _ (.tmp x) _ _ => basesOf H ops F 12 x
 | .mapUpdate _ (.tmp x) _ _ => basesOf H ops F 12 x
 | .call { callee := .builtin .append, args, .. } => match args.toList with
  | (.tmp x) :: _ => basesOf H ops F 12 x
  | _ => []
 | _ => []
def ldIn (H : List Blk) (ops : List Oper) (F : List LV) (tr : List Nat) (o : Oper) : Bool :=
 match o.op with
 | .load _ (.tmp x) => (basesOf H ops F 12 x).any tr.contains
 | _ => false
def maskB (b : Blk) : Blk :=
 match b.k with
 | .cl => ⟨List.replicate b.c.length .junk, b.t, .cl, b.p⟩
 | _ => ⟨[], b.t, .dead, false⟩
def maskGo (tr : List Nat) : Nat → List Blk → List Blk
 | _, [] => []
 | k, b :: bs => (if tr.contains k then maskB b else b) :: maskGo tr (k + 1) bs
def isCall (o : Oper) : Bool :=
 match o.op with
 | .call { callee := .value _, .. } => true
 | .call { callee := .invoke .., .. } => true
 | _ => false
def apartL (G : Globs) (F : List LV) (tr : List Nat) (o : Oper) : Bool :=
 match o.op with
 | .load _ x => match evalL G F x with
  | .own k _ => !tr.contains k
  | .op k _ _ _ => !tr.contains k
  | _ => true
 | .lookup _ x _ _ => match evalL G F x with
  | .om k => !tr.contains k
  | _ => true
 | _ => true
def fstT (t : T (LV × List Blk)) : T LV := t.bind fun q => .ok q.1
def calmx (P : Program) (G : Globs) (Γ : Specs) (tr : List Nat) (F : List LV) (Hm : List Blk) (o : Oper) : T LV :=
 if isSp P o || !apartL G F tr o then .no
 else if isCall o then onlyPl (fstT (opx P G Γ F Hm o))
 else fstT (opx P G Γ F Hm o)
def p1x (P : Program) (G : Globs) (Γ : Specs) (ops : Array Oper) (tr : List Nat) (H Hm : List Blk) : List Bool → List Oper → List LV → T (List LV × List Blk)
 | f :: fs, o :: os, F =>
  if f then p1x P G Γ ops tr H Hm fs os F else
  let go (F : List LV) : T (List LV × List Blk) := (calmx P G Γ tr F Hm o).bind fun y => p1x P G Γ ops tr H Hm fs os (setF F o.dst y)
  let pass (F : List LV) : T (List LV × List Blk) := p1x P G Γ ops tr H Hm fs os (setF F o.dst (.v undef))
  match o.guard with
  | none => go F
  | some (j, want) => match (ops[j]?).bind (·.dst) with
   | some d => match F.getD d .junk with
    | .bl b => if b = want then go F else pass F
    | .v (.bool g) => if want then .br g (go (F.set d (.bl true))) (pass (F.set d (.bl false))) else .br g (pass (F.set d (.bl true))) (go (F.set d (.bl false)))
    | .v (.tuple _) => pass F
    | _ => .no
   | none => .no
 | _, _, F => .ok (F, H)
def wrt (G : Globs) (F : List LV) (o : Oper) : List Nat :=
 match o.op with
 | .store _ x _ => owns (evalL G F x)
 | .insert _ x _ _ => owns (evalL G F x)
 | .mapUpdate _ x _ _ => owns (evalL G F x)
 | .call { callee := .builtin .append, args, .. } => match args.toList.map (evalL G F) with
  | x :: _ => owns x
  | [] => []
 | _ => []
def okStore (G : Globs) (F : List LV) (tr : List Nat) (n0 : Nat) (o : Oper) : Bool := (wrt G F o).all fun k => tr.contains k || decide (n0 ≤ k)
def p2x (P : Program) (G : Globs) (Γ : Specs) (ops : Array Oper) (tr : List Nat) (n0 : Nat) : List Bool → List Oper → List LV → List Blk → T (List LV × List Blk)
 | f :: fs, o :: os, F, H =>
  if f then
   let go (F : List LV) : T (List LV × List Blk) := if okStore G F tr n0 o then (opx P G Γ F H o).bind fun q => p2x P G Γ ops tr n0 fs os (setF F o.dst q.1) q.2 else .no
   let pass (F : List LV) : T (List LV × List Blk) := p2x P G Γ ops tr n0 fs os (setF F o.dst (.v undef)) H
   match o.guard with
   | none => go F
   | some (j, want) => match (ops[j]?).bind (·.dst) with
    | some d => match F.getD d .junk with
     | .bl b => if b = want then go F else pass F
     | .v (.bool g) => if want then .br g (go (F.set d (.bl true))) (pass (F.set d (.bl false))) else .br g (pass (F.set d (.bl true))) (go (F.set d (.bl false)))
     | .v (.tuple _) => pass F
     | _ => .no
    | none => .no
  else p2x P G Γ ops tr n0 fs os F H
 | _, _, F, H => .ok (F, H)
/-! Where what is special may come in several orders: new blocks beside literals and calls that only make memory. -/
def isMk (o : Oper) : Bool :=
 match o.op with
 | .buildSlice .. => true
 | .call { callee := .value _, .. } => true
 | _ => false
def isAl (o : Oper) : Bool :=
 match o.op with
 | .alloc _ => true
 | .box .. => true
 | .makeSlice .. => true
 | _ => false
def isAm (o : Oper) : Bool :=
 match o.op with
 | .alloc _ => true
 | .box .. => true
 | .load .. => true
 | _ => false
def mkx (P : Program) (G : Globs) (Γ : Specs) (F : List LV) (o : Oper) : T LV :=
 match o.op with
 | .buildSlice t len parts => if noOwnL ((parts.toList.map fun q => (q.1, evalL G F q.2)).map (·.2)) then litL P t len (parts.toList.map fun q => (q.1, evalL G F q.2)) else .no
 | .call { callee := .value f, args, .. } => match evalL G F f with
  | .fn g cap => match P.funcs[g]? with
   | some fn => if fn.body.isSome && !(fn.name == "runtime.NumGoroutine") then
     match Γ g with
     | some S => if noOwnL (args.toList.map (fun x => norm (evalL G F x)) ++ cap) then S (args.toList.map (fun x => norm (evalL G F x)) ++ cap) else .no
     | none => .no
    else .no
   | none => .no
  | _ => .no
 | _ => .no
def spx (P : Program) (G : Globs) (Γ : Specs) (F : List LV) (H : List Blk) (o : Oper) : T (LV × List Blk) :=
 if isMk o then (mkx P G Γ F o).bind fun y => .ok (y, H) else opx P G Γ F H o
def p2f (P : Program) (G : Globs) (Γ : Specs) (ops : Array Oper) (tr : List Nat) (n0 : Nat) : List Nat → List LV → List Blk → T (List LV × List Blk)
 | [], F, H => .ok (F, H)
 | i :: is, F, H => match ops[i]? with
  | some o => if o.guard.isNone && okStore G F tr n0 o then (spx P G Γ F H o).bind fun q => p2f P G Γ ops tr n0 is (setF F o.dst q.1) q.2 else .no
  | none => .no
def commB (ops : Array Oper) (i j : Nat) : Bool :=
 match ops[i]?, ops[j]? with
 | some x, some y => x.guard.isNone && y.guard.isNone && ((isAm x && isMk y) || (isMk x && isAm y) || (isMk x && isMk y)) && x.apart ops y
 | _, _ => false
def befR (i : Nat) : List Nat → List Nat
 | [] => []
 | j :: js => if j = i then [] else j :: befR i js
def ordF (ops : Array Oper) : Nat → List Nat → Array Bool → Bool
 | 0, R, listed => R.isEmpty && (Region.ready .any ops listed).isEmpty
 | n + 1, R, listed => !(Region.ready .any ops listed).isEmpty && (Region.ready .any ops listed).all fun i => R.contains i && (befR i R).all (fun j => commB ops i j) && ordF ops n (R.erase i) (listed.setIfInBounds i true)
def floatx (ops : Array Oper) (flags : List Bool) : Bool :=
 Go.Proofs.Ytihbikkkmoaljaa.floatB ops flags && ordF ops (Go.Proofs.Ytihbikkkmoaljaa.idxs true flags 0).length (Go.Proofs.Ytihbikkkmoaljaa.idxs true flags 0) (Go.Proofs.Ytihbikkkmoaljaa.afterL (Go.Proofs.Ytihbikkkmoaljaa.idxs false flags 0) (Array.replicate ops.size false))
/-! Where new blocks come in any order: each has a place of its own. -/
def deadBk : Blk := ⟨[], 0, .dead, false⟩
def alAt (P : Program) (G : Globs) (F : List LV) (H : List Blk) (k : Nat) (o : Oper) : T (LV × List Blk) :=
 match o.op with
 | .alloc t => match zeroT P t with
  | some z => match cellsL (.v z) with
   | some cs => .ok (.own k 0, H.set k ⟨cs, t, .cl, false⟩)
   | none => .no
  | none => .no
 | .box t x => match cellsL (evalL G F x) with
  | some cs => .ok (.own k 0, H.set k ⟨cs, t, .cl, false⟩)
  | none => .no
 | .makeSlice t n c => match elemT P t, pl (evalL G F n), pl (evalL G F c) with
  | some (e, ty, m, by_), some (.int .i64 n), some (.int .i64 c) => match zeroT P e with
   | some z => match decL ty (z.cells.toList.map .v) with
    | some d => if z.cells.size = m then .req (0 ≤ n ∧ n ≤ c ∧ by_ * c ≤ 2 ^ 48 ∧ c < 2 ^ 63) (.ok (.os k m 0 n.toNat, H.set k ⟨[], e, .vec ty (List.replicate n.toNat d), false⟩)) else .no
    | none => .no
   | none => .no
  | _, _, _ => .no
 | _ => .no
def isSt (o : Oper) : Bool :=
 match o.op with
 | .store .. => true
 | .move _ => true
 | .assign _ => true
 | .build .. => true
 | _ => false
def spa (P : Program) (G : Globs) (Γ : Specs) (n0 i : Nat) (F : List LV) (H : List Blk) (o : Oper) : T (LV × List Blk) :=
 if isAl o then alAt P G F H (n0 + i) o else if isSt o then opx P G Γ F H o else .no
def p2a (P : Program) (G : Globs) (Γ : Specs) (ops : Array Oper) (tr : List Nat) (n0 : Nat) : List Nat → List LV → List Blk → T (List LV × List Blk)
 | [], F, H => .ok (F, H)
 | i :: is, F, H => match ops[i]? with
  | some o => if o.guard.isNone && okStore G F tr n0 o then (spa P G Γ n0 i F H o).bind fun q => p2a P G Γ ops tr n0 is (setF F o.dst q.1) q.2 else .no
  | none => .no
def isMv (o : Oper) : Bool :=
 match o.op with
 | .move _ => true
 | .assign _ => true
 | _ => false
def commA (ops : Array Oper) (i j : Nat) : Bool :=
 match ops[i]?, ops[j]? with
 | some x, some y => !(i == j) && x.guard.isNone && y.guard.isNone && (isAl x || isMv x) && (isAl y || isMv y) && x.apart ops y
 | _, _ => false
def ordA (ops : Array Oper) : Nat → List Nat → Array Bool → Bool
 | 0, R, listed => R.isEmpty && (Region.ready .any ops listed).isEmpty
 | n + 1, R, listed => !(Region.ready .any ops listed).isEmpty && (Region.ready .any ops listed).all fun i => R.contains i && (befR i R).all (fun j => commA ops i j) && ordA ops n (R.erase i) (listed.setIfInBounds i true)
def nodupN : List Nat → Bool
 | [] => true
 | k :: ks => !ks.contains k && nodupN ks
def alx (ops : Array Oper) (flags : List Bool) : Bool :=
 Go.Proofs.Ytihbikkkmoaljaa.floatB ops flags && nodupN (Go.Proofs.Ytihbikkkmoaljaa.idxs true flags 0) && (Go.Proofs.Ytihbikkkmoaljaa.idxs true flags 0).all (fun i => decide (i < ops.size)) && ordA ops (Go.Proofs.Ytihbikkkmoaljaa.idxs true flags 0).length (Go.Proofs.Ytihbikkkmoaljaa.idxs true flags 0) (Go.Proofs.Ytihbikkkmoaljaa.afterL (Go.Proofs.Ytihbikkkmoaljaa.idxs false flags 0) (Array.replicate ops.size false))
/-! Where what hangs on literals may come in several orders, under guards: each operation gives a value that no own block is asked for. -/
def pux (P : Program) (G : Globs) (Γ : Specs) (F : List LV) (o : Oper) : T LV :=
 match o.op with
 | .move x => .ok (evalL G F x)
 | .assign x => .ok (evalL G F x)
 | .pick c a b => pickL (evalL G F c) (evalL G F a) (evalL G F b)
 | .load t x => (match evalL G F x with
  | .xq m f => loadL P [] t (.xq m f)
  | _ => .no)
 | .fieldAddr s x i => fieldL P s (evalL G F x) i
 | .indexAddr t x i => indexL P t (evalL G F x) (isKi (evalL G F i)) (evalL G F i)
 | .build t parts => buildL P t (parts.toList.map fun q => (q.1, evalN G F q.2))
 | .buildSlice .. => mkx P G Γ F o
 | .call { callee := .value _, .. } => mkx P G Γ F o
 | .unOp .. => genL P G F o
 | .binOp op _ _ _ _ => (match op with
  | .quo => .no
  | .rem => .no
  | .shl => .no
  | .shr => .no
  | _ => genL P G F o)
 | _ => .no
def isGd (ops : Array Oper) (o : Oper) : Bool :=
 match o.dst with
 | some d => (gds ops).contains d
 | none => false
def splitG (ops : Array Oper) (o : Oper) (y : LV) : T LV :=
 if isGd ops o then (match y with
  | .v (.bool g) => .br g (.ok (.bl true)) (.ok (.bl false))
  | y => .ok y) else .ok y
def valG (P : Program) (G : Globs) (Γ : Specs) (ops : Array Oper) (F : List LV) (o : Oper) : T LV :=
 match o.guard with
 | none => (pux P G Γ F o).bind (splitG ops o)
 | some (j, want) => match (ops[j]?).bind (·.dst) with
  | some d => match F.getD d .junk with
   | .bl b => if b = want then (pux P G Γ F o).bind (splitG ops o) else .ok (.v undef)
   | .v (.tuple _) => .ok (.v undef)
   | _ => .no
  | none => .no
def p2g (P : Program) (G : Globs) (Γ : Specs) (ops : Array Oper) : List Nat → List LV → T (List LV)
 | [], F => .ok F
 | i :: is, F => match ops[i]? with
  | some o => (valG P G Γ ops F o).bind fun y => p2g P G Γ ops is (setF F o.dst y)
  | none => .no
def commG (ops : Array Oper) (i j : Nat) : Bool :=
 match ops[i]?, ops[j]? with
 | some x, some y => x.apart ops y
 | _, _ => false
def ordG (ops : Array Oper) : Nat → List Nat → Array Bool → Bool
 | 0, R, listed => R.isEmpty && (Region.ready .any ops listed).isEmpty
 | n + 1, R, listed => !(Region.ready .any ops listed).isEmpty && (Region.ready .any ops listed).all fun i => R.contains i && (befR i R).all (fun j => commG ops i j) && ordG ops n (R.erase i) (listed.setIfInBounds i true)
def gdS (ops : Array Oper) (R : List Nat) : List Nat := R.filterMap fun i => (ops[i]?).bind fun o => o.guard.bind fun g => (ops[g.1]?).bind (·.dst)
def splitF : List Nat → List LV → T (List LV)
 | [], F => .ok F
 | d :: ds, F => match F.getD d .junk with
  | .v (.bool g) => .br g (splitF ds (F.set d (.bl true))) (splitF ds (F.set d (.bl false)))
  | _ => splitF ds F
def grdx (ops : Array Oper) (flags : List Bool) : Bool :=
 Go.Proofs.Ytihbikkkmoaljaa.floatB ops flags && ordG ops (Go.Proofs.Ytihbikkkmoaljaa.idxs true flags 0).length (Go.Proofs.Ytihbikkkmoaljaa.idxs true flags 0) (Go.Proofs.Ytihbikkkmoaljaa.afterL (Go.Proofs.Ytihbikkkmoaljaa.idxs false flags 0) (Array.replicate ops.size false))
def drawx (P : Program) (G : Globs) (Γ : Specs) (ops : Array Oper) (F : List LV) (H : List Blk) : T (List LV × List Blk) :=
 let tr := tracked H ops.toList F
 let flags := flagsGo (fun o => isSp P o || ldIn H ops.toList F tr o) [] ops.toList
 if Go.Proofs.Ytihbikkkmoaljaa.calmB ops flags && P.follows .mixedOrders && tr.all (fun k => decide (k < H.length)) then
  (mergeT (dsts ops.toList) F H (p1x P G Γ ops tr H (maskGo tr 0 H) flags ops.toList F)).bind fun q => p2x P G Γ ops tr H.length flags ops.toList q.1 H
 else if floatx ops flags && P.follows .mixedOrders && tr.all (fun k => decide (k < H.length)) then
  (mergeT (dsts ops.toList) F H (p1x P G Γ ops tr H (maskGo tr 0 H) flags ops.toList F)).bind fun q => p2f P G Γ ops tr H.length (Go.Proofs.Ytihbikkkmoaljaa.idxs true flags 0) q.1 H
 else if alx ops flags && P.follows .mixedOrders && tr.all (fun k => decide (k < H.length)) then
  (mergeT (dsts ops.toList) F H (p1x P G Γ ops tr H (maskGo tr 0 H) flags ops.toList F)).bind fun q => p2a P G Γ ops tr H.length (Go.Proofs.Ytihbikkkmoaljaa.idxs true flags 0) q.1 (H ++ List.replicate ops.size deadBk)
 else if grdx ops flags && P.follows .mixedOrders && tr.all (fun k => decide (k < H.length)) then
  (p1x P G Γ ops tr H (maskGo tr 0 H) flags ops.toList F).bind fun q => (splitF (gdS ops (Go.Proofs.Ytihbikkkmoaljaa.idxs true flags 0)) q.1).bind fun F0 => (p2g P G Γ ops (Go.Proofs.Ytihbikkkmoaljaa.idxs true flags 0) F0).bind fun F2 => .ok (F2, H)
 else .no
def srcSlot (ops : List Oper) (s : Nat) : Nat :=
 match ops.find? (fun o => o.dst == some s) with
 | some o => match o.op with
  | .move (.tmp y) => y
  | _ => s
 | none => s
def isApp (o : Oper) : Bool :=
 match o.op with
 | .call { callee := .builtin .append, .. } => true
 | _ => false
def splitOf (P : Program) (ops : List Oper) (F : List LV) : Option (Nat × IntKind × Int × Nat) :=
 if ops.any isApp then
  ops.findSome? fun o => match o.op with
   | .indexAddr t _ (.tmp s) => match P.underlying t with
    | some (.array len e) => match P.underlying e, F.getD (srcSlot ops s) .junk with
     | some (.slice _), .v (.int k n) => some (srcSlot ops s, k, n, len)
     | _, _ => none
    | _ => none
   | _ => none
 else none
def splitN {α : Type} (f : Nat → T α) (n : Int) : Nat → Nat → T α
 | 0, _ => .no
 | 1, j => f j
 | m + 2, j => .br (n == (j : Int)) (f j) (splitN f n (m + 1) (j + 1))
def drawy (P : Program) (G : Globs) (Γ : Specs) (ops : Array Oper) (F : List LV) (H : List Blk) : T (List LV × List Blk) :=
 match splitOf P ops.toList F with
 | some (s, k, n, len) => .req (0 ≤ n ∧ n < (len : Int)) (splitN (fun j => drawx P G Γ ops (F.set s (.ki k j)) H) n len 0)
 | none => drawx P G Γ ops F H
def firstR : Code → Nat
 | .region id _ _ => id
 | .seq a _ => firstR a
 | .block _ b => firstR b
 | .loop b => firstR b
 | .cond _ a _ => firstR a
 | _ => 0
abbrev Loops := Nat → List LV → List Blk → T (Ex × List LV × List Blk)
abbrev LoopC := Code → List LV → List Blk → T (Ex × List LV × List Blk)
def byId (L : Loops) : LoopC := fun b => L (firstR b)
def isReady : BK → Bool
 | .lrec _ _ _ .ready => true
 | _ => false
def leftBy : Option Blk → Option Ex
 | some ⟨_, _, .lrec _ _ _ .ready, false⟩ => some .normal
 | some ⟨_, _, .lrec _ _ _ (.done x), false⟩ => match x with
  | .normal => none
  | x => some x
 | _ => none
def tmpO : Operand → List Nat
 | .tmp t => [t]
 | _ => []
def usedT : Code → List Nat
 | .region _ ops _ => ops.toList.flatMap fun o => o.op.operands.toList.flatMap tmpO
 | .seq a b => usedT a ++ usedT b
 | .cond c a b => tmpO c ++ usedT a ++ usedT b
 | .block _ b => usedT b
 | .loop b => usedT b
 | .rangeFunc f _ a b => tmpO f ++ usedT a ++ usedT b
 | .scope b => usedT b
 | _ => []
def maskU (us : List Nat) (F : List LV) : List LV := (List.range F.length).map fun i => if us.contains i then F.getD i .junk else .junk
def codex (P : Program) (G : Globs) (Γ : Specs) (K : Hand) (L : LoopC) : Code → List LV → List Blk → T (Ex × List LV × List Blk)
 | .skip, F, H => .ok (.normal, F, H)
 | .ret, F, H => .ok (.ret, F, H)
 | .exit n, F, H => .ok (.exit n, F, H)
 | .region _ ops d, F, H => (if d then drawy P G Γ ops F H else regx P G Γ K ops F H).bind fun q => .ok (.normal, q.1, q.2)
 | .seq a b, F, H => (codex P G Γ K L a F H).bind fun q => match q.1 with
  | .normal => codex P G Γ K L b q.2.1 q.2.2
  | x => .ok (x, q.2)
 | .cond c a b, F, H => match c with
  | .tmp d => match F.getD d .junk with
   | .bl true => codex P G Γ K L a F H
   | .bl false => codex P G Γ K L b F H
   | .v (.bool g) => .br g (codex P G Γ K L a (F.set d (.bl true)) H) (codex P G Γ K L b (F.set d (.bl false)) H)
   | _ => .no
  | .const (.bool true) => codex P G Γ K L a F H
  | .const (.bool false) => codex P G Γ K L b F H
  | _ => .no
 | .block id a, F, H => (codex P G Γ K L a F H).bind fun q => match q.1 with
  | .exit n => if n = id then .ok (.normal, q.2) else .ok (.exit n, q.2)
  | x => .ok (x, q.2)
 | .loop a, F, H => L a F H
 | .scope a, F, H => codex P G Γ K L a F H
 | .label _, F, H => .ok (.normal, F, H)
 | .rangeFunc f ps asg body, F, H => match evalL G F f with
  | .fn g cap => match P.funcs[g]? with
   | some fn => if fn.body.isSome && !(fn.name == "runtime.NumGoroutine") then
     (K.k g (.yld H.length :: cap) (H ++ [⟨maskU (usedT asg ++ usedT body) F, 0, .lrec ps asg body .ready, false⟩])).bind fun q => match leftBy q.2[H.length]? with
      | some x => .ok (x, F, q.2.set H.length ⟨[], 0, .dead, false⟩)
      | none => .no
    else .no
   | none => .no
  | _ => .no
 | _, _, _ => .no
def resx (P : Program) (fn : Func) (F : List LV) (H : List Blk) : List ResultVar → T (List LV)
 | [] => .ok []
 | .tmp t :: rs => (resx P fn F H rs).bind fun l => .ok (norm (F.getD t .junk) :: l)
 | .cell a t :: rs => (loadL P H t (F.getD a .junk)).bind fun y => (resx P fn F H rs).bind fun l => .ok (y :: l)
def one (l : List LV) : LV := match l with | [x] => x | l => mkTup l
def funx (P : Program) (G : Globs) (Γ : Specs) (K : Hand) (L : Loops) (fn : Func) (args : List LV) : T LV :=
 match fn.body with
 | some c => (codex P G Γ K (byId L) c (args ++ List.replicate (fn.ntmps - args.length) (.v undef)) []).bind fun q => match q.1 with
  | .exit _ => .no
  | _ => (resx P fn q.2.1 q.2.2 fn.results.toList).bind fun l => if noOwn (one l) then .ok (one l) else (guardX q.2.2 8 (one l)).bind fun _ => .ok (toX q.2.2 8 (one l))
 | none => .no
def specsOf : List (FuncId × (List LV → T LV)) → Specs
 | [], _ => none
 | p :: ps, g => if g = p.1 then some p.2 else specsOf ps g
def noLoops : Loops := fun _ _ _ => .no
def noLoopC : LoopC := fun _ _ _ => .no
def noRF : Code → Bool
 | .seq a b => noRF a && noRF b
 | .cond _ a b => noRF a && noRF b
 | .block _ b => noRF b
 | .loop b => noRF b
 | .rangeFunc .. => false
 | .scope b => noRF b
 | _ => true
def unroll (t : List LV → List Blk → T (Ex × List LV × List Blk)) : Nat → List LV → List Blk → T (Ex × List LV × List Blk)
 | 0, _, _ => .no
 | m + 1, F, H => (t F H).bind fun q => match q.1 with
  | .normal => unroll t m q.2.1 q.2.2
  | x => .ok (x, q.2)
def unrC (P : Program) (G : Globs) (Γ : Specs) (K : Hand) (m : Nat) : Nat → LoopC
 | 0 => noLoopC
 | d + 1 => fun b => unroll (codex P G Γ K (unrC P G Γ K m d) b) m
def setPs (F : List LV) : List Tmp → List LV → List LV
 | t :: ts, x :: xs => setPs (F.set t x) ts xs
 | _, _ => F
abbrev LoopT := Hand → FuncId → Nat → LoopC
def inl (P : Program) (G : Globs) (Γ : Specs) (LL : LoopT) : Nat → Hand
 | 0 => noK
 | d + 1 => ⟨fun g args H => match P.funcs[g]? with
  | some fn => match fn.body with
   | some c => (codex P G Γ (inl P G Γ LL d) (LL (inl P G Γ LL d) g H.length) c (args ++ List.replicate (fn.ntmps - args.length) (.v undef)) H).bind fun q => match q.1 with
    | .exit _ => .no
    | _ => (resx P fn q.2.1 q.2.2 fn.results.toList).bind fun l => .ok (one l, q.2.2)
   | none => .no
  | none => .no,
  fun k args H => match H[k]? with
  | some ⟨F, t, .lrec ps asg body .ready, false⟩ => if args.length = ps.size ∧ noRF asg = true ∧ noRF body = true then
    (codex P G Γ (inl P G Γ LL d) noLoopC asg (setPs F ps.toList args) H).bind fun (q : Ex × List LV × List Blk) => match q.1 with
     | .normal => (match q.2.2[k]? with
      | some ⟨F1, _, .lrec ps1 asg1 body1 .ready, false⟩ => (codex P G Γ (inl P G Γ LL d) (unrC P G Γ (inl P G Γ LL d) 20 2) body q.2.1 (q.2.2.set k ⟨F1, t, .lrec ps1 asg1 body1 .busy, false⟩)).bind fun (r : Ex × List LV × List Blk) => match r.2.2[k]? with
       | some ⟨F2, _, .lrec ps2 asg2 body2 .busy, false⟩ => (match r.1 with
        | .normal => .ok (.bl true, r.2.2.set k ⟨F2, t, .lrec ps2 asg2 body2 .ready, false⟩)
        | x => .ok (.bl false, r.2.2.set k ⟨F2, t, .lrec ps2 asg2 body2 (.done x), false⟩))
       | _ => .no
      | _ => .no)
     | _ => .no
   else .no
  | _ => .no⟩
def noGlobs : Globs := fun _ => none
end Go.Sx
