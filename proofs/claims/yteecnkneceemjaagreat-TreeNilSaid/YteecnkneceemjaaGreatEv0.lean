/-
  A run reckoned out by a function: what a piece of code does to slots, and to memory whose blocks go by numbers of their own (the definitions).
-/
import Derived.OrdersHeld
import Derived.Recover
import Derived.Scope
namespace Go.Ev
set_option linter.unusedVariables false

inductive Tr (α : Type) where
  | nil
  | node (l : Tr α) (v : Option α) (r : Tr α)

def Tr.get {α : Type} : Tr α → Nat → Option α
  | .nil, _ => none
  | .node l v r, k => bif Nat.beq k 0 then v else bif Nat.beq ((k - 1) % 2) 0 then l.get ((k - 1) / 2) else r.get ((k - 1) / 2)
def Tr.put {α : Type} (v : Option α) : Nat → Tr α → Nat → Tr α
  | 0, t, _ => t
  | d + 1, .nil, k => bif Nat.beq k 0 then .node .nil v .nil else bif Nat.beq ((k - 1) % 2) 0 then .node (put v d .nil ((k - 1) / 2)) none .nil else .node .nil none (put v d .nil ((k - 1) / 2))
  | d + 1, .node l u r, k => bif Nat.beq k 0 then .node l v r else bif Nat.beq ((k - 1) % 2) 0 then .node (put v d l ((k - 1) / 2)) u r else .node l u (put v d r ((k - 1) / 2))

/-- an object of memory: a row of cells (no more behind them than these, or some that nothing is known of), a map, one that is gone over -/
inductive Ob where
  | cells (c : List Value) (t : TypeId) (ex : Bool)
  | map (es : List MapEntry) (ck : Nat)
  | mit (m : Option Nat) (since : Nat) (seen : List Nat) (last : Nat)

structure Hp where
  t : Tr Ob
  nx : Nat
def Hp.at (h : Hp) (k : Nat) : Option Ob := h.t.get k
def Hp.set (h : Hp) (k : Nat) (o : Option Ob) : Hp := ⟨h.t.put o 20 k, h.nx⟩
def Hp.add (h : Hp) (o : Ob) : Hp := ⟨h.t.put (some o) 20 h.nx, h.nx + 1⟩

def scal : Value → Bool
  | .bool _ | .int _ _ | .string _ | .pointer none | .slice none _ _ | .map none | .nilFunc | .nilIface => true
  | _ => false
def plain : Value → Bool
  | .agg cs => cs.toList.all scal
  | .tuple vs => vs.toList.all scal
  | v => scal v
def one : Value → Bool
  | .agg _ | .tuple _ => false
  | _ => true

/-- what is known of types: each one's row and shape; of which structs of whole numbers two are held against one another, by their parts -/
structure Tb where
  ty : TypeId → Option (TypeInfo × TypeDesc)
  eq : TypeId → Option (List IntKind)
instance : CoeFun Tb (fun _ => TypeId → Option (TypeInfo × TypeDesc)) := ⟨Tb.ty⟩
def isAg : TypeDesc → Bool
  | .struct _ | .array _ _ => true
  | _ => false
def isIf : TypeDesc → Bool
  | .interface _ => true
  | _ => false
def isInt : TypeDesc → Bool
  | .int _ => true
  | _ => false
def keyKind : TypeDesc → Bool
  | .int _ | .string => true
  | _ => false

def puree {α : Type} : Sem α → Option α
  | .pure a => some a
  | _ => none
def scalO : Option Value → Option Value
  | some v => bif scal v then some v else none
  | none => none

abbrev Evl := Operand → Option Value
def evO (s : Tr Value) : Evl
  | .tmp k => s.get k
  | .const v => bif plain v then some v else none
  | .global _ => none
  | .func f => some (.func (.func f) #[] #[])
def evs (ev : Evl) : List Operand → Option (List Value)
  | [] => some []
  | x :: l => match ev x with
    | some v => match evs ev l with
      | some r => some (v :: r)
      | none => none
    | none => none
def evps (ev : Evl) : List (Nat × Operand) → Option (List (Nat × Value))
  | [] => some []
  | (i, x) :: l => match ev x with
    | some v => match evps ev l with
      | some r => some ((i, v) :: r)
      | none => none
    | none => none

def rd (h : Hp) (k off n : Nat) : Option (List Value) :=
  match h.at k with
  | some (.cells c _ _) => bif Nat.ble (off + n) c.length then some ((c.drop off).take n) else none
  | _ => none
def ldv (T : Tb) (h : Hp) (t : TypeId) (a : Addr) : Option Value :=
  match T t with
  | some (ti, d) => match isAg d with
    | true => match rd h a.block a.off ti.size with
      | some l => some (.agg l.toArray)
      | none => none
    | false => match h.at a.block with
      | some (.cells c _ _) => c[a.off]?
      | _ => none
  | none => none
def overl : List Value → Nat → List Value → List Value
  | c, 0, vs => vs ++ c.drop vs.length
  | [], _ + 1, _ => []
  | x :: c, n + 1, vs => x :: overl c n vs
def wr (h : Hp) (k off : Nat) (vs : List Value) : Option Hp :=
  match h.at k with
  | some (.cells c t ex) => bif Nat.blt k 1000000 && Nat.ble (off + vs.length) c.length && vs.all one then some (h.set k (some (.cells (overl c off vs) t ex))) else none
  | _ => none

def exact (h : Hp) (k : Nat) : Bool := match h.at k with
  | some (.cells _ _ ex) => ex
  | _ => false

/-- two pointers -/
def samePtr (h : Hp) : Option Addr → Option Addr → Option Bool
  | none, none => some true
  | some _, none => some false
  | none, some _ => some false
  | some a, some b => bif exact h a.block && exact h b.block then some (Nat.beq a.block b.block && Nat.beq a.off b.off) else none
def isConst : Operand → Bool
  | .const _ => true
  | _ => false
def scalEq : Value → Value → Option Bool
  | .bool a, .bool b => some (a == b)
  | .int k a, .int k' b => bif decide (k = k') then some (a == b) else none
  | .string a, .string b => some (a == b)
  | _, _ => none
def boolOp (op : BinOp) (b : Bool) : Option Value := match op with
  | .eql => some (.bool b)
  | .neq => some (.bool !b)
  | _ => none
def kindsAre : List IntKind → List Value → Bool
  | [], [] => true
  | k :: l, .int k' _ :: m => decide (k = k') && kindsAre l m
  | _, _ => false
def sameI : List Value → List Value → Bool
  | .int _ a :: l, .int _ b :: m => a == b && sameI l m
  | _, _ => true
/-- numbers of which the bounds are known: of 64 bits, the bounds by 2 ^ 63 too great -/
def bias : Nat := 9223372036854775808
def itv (lo hi : Nat) : Value := .complex .f64 lo hi
def biased (n : Int) : Nat := (n + 9223372036854775808).toNat
def fits64 (n : Int) : Bool := decide (-9223372036854775808 ≤ n) && decide (n < 9223372036854775808)
def decB (t f : Bool) : Option Value := bif t then some (.bool true) else bif f then some (.bool false) else none
def icmp (op : BinOp) (a b c d : Nat) : Option Value := match op with
  | .lss => decB (Nat.blt b c) (Nat.ble d a)
  | .leq => decB (Nat.ble b c) (Nat.blt d a)
  | .gtr => decB (Nat.blt d a) (Nat.ble b c)
  | .geq => decB (Nat.ble d a) (Nat.blt b c)
  | .eql => decB false (Nat.blt b c || Nat.blt d a)
  | .neq => decB (Nat.blt b c || Nat.blt d a) false
  | .add => some (itv 0 18446744073709551615)
  | .sub => some (itv 0 18446744073709551615)
  | .mul => some (itv 0 18446744073709551615)
  | _ => none
def bin (T : Tb) (h : Hp) (op : BinOp) (t : TypeId) (x y : Operand) (a b : Value) : Option Value :=
  match a, b with
  | .int _ _, .int _ _ => scalO (puree (binOp op t a b))
  | .string _, .string _ => scalO (puree (binOp op t a b))
  | .complex .f64 lo hi, .int .i64 n => bif fits64 n then icmp op lo hi (biased n) (biased n) else none
  | .int .i64 n, .complex .f64 lo hi => bif fits64 n then icmp op (biased n) (biased n) lo hi else none
  | .complex .f64 lo hi, .complex .f64 lo' hi' => icmp op lo hi lo' hi'
  | .bool p, .bool q => match T t with
    | some (_, .bool) => boolOp op (p == q)
    | _ => none
  | .pointer p, .pointer q => match T t with
    | some (_, .pointer e) => match T e with
      | some (ti, _) => bif Nat.beq ti.size 0 then none else match samePtr h p q with
        | some r => boolOp op r
        | none => none
      | none => none
    | _ => none
  | .nilIface, .nilIface => match T t with
    | some (_, .interface _) => bif isConst x || isConst y then boolOp op true else none
    | _ => none
  | .iface _ _, .nilIface => match T t with
    | some (_, .interface _) => boolOp op false
    | _ => none
  | .agg a, .agg b => match T.eq t with
    | some ks => bif kindsAre ks a.toList && kindsAre ks b.toList then boolOp op (sameI a.toList b.toList) else none
    | none => none
  | _, _ => none

def bytesOf : List Value → Option (List UInt8)
  | [] => some []
  | .int .u8 n :: l => match bytesOf l with
    | some r => some (UInt8.ofNat n.toNat :: r)
    | none => none
  | _ => none
def conv (T : Tb) (h : Hp) (s d : TypeId) (x : Value) : Option Value :=
  match T s, T d, x with
  | some (_, _), some (_, .int k), .int _ n => scalO (puree (Conv.intToInt k n))
  | some (_, .string), some (_, .string), .string b => some (.string b)
  | some (_, .slice e), some (_, .string), .slice none _ _ => match T e with
    | some (_, .int .u8) => some (.string .empty)
    | _ => none
  | some (_, .slice e), some (_, .string), .slice (some a) n _ => match T e, rd h a.block a.off n with
    | some (_, .int .u8), some l => match bytesOf l with
      | some r => some (.string ⟨r.toArray⟩)
      | none => none
    | _, _ => none
  | _, _, _ => none

def bnd (ev : Evl) (dflt hi : Nat) : Option Operand → Option Nat
  | none => some dflt
  | some x => match ev x with
    | some (.int _ i) => bif decide (0 ≤ i) && Nat.ble i.toNat hi then some i.toNat else none
    | _ => none
def slc (T : Tb) (h : Hp) (ev : Evl) (t : TypeId) (x : Value) (lo hi : Option Operand) : Option Value :=
  match T t, x with
  | some (_, .slice e), .slice a n c => match T e, bnd ev n c hi with
    | some (ti, _), some q => match bnd ev 0 q lo, Nat.ble q c with
      | some p, true => match a with
        | none => some (.slice none (q - p) (c - p))
        | some a => match Nat.beq c p with
          | true => bif exact h a.block then some (.slice (some a) (q - p) (c - p)) else none
          | false => some (.slice (some (a.add (p * ti.size))) (q - p) (c - p))
      | _, _ => none
    | _, _ => none
  | some (_, .string), .string s => match bnd ev s.size s.size hi with
    | some q => match bnd ev 0 q lo with
      | some p => some (.string (s.extract p q))
      | none => none
    | none => none
  | some (_, .array n e), .pointer (some a) => match T e, bnd ev n n hi with
    | some (ti, _), some q => match bnd ev 0 q lo with
      | some p => bif exact h a.block then some (.slice (some (bif Nat.beq n p then a else a.add (p * ti.size))) (q - p) (n - p)) else none
      | none => none
    | _, _ => none
  | _, _ => none

def partv (T : Tb) (t : TypeId) (cs : List Value) (off : Nat) : Option Value :=
  match T t with
  | some (ti, d) => match isAg d with
    | true => some (.agg ((cs.drop off).take ti.size).toArray)
    | false => cs[off]?
  | none => none
def zerov (T : Tb) (t : TypeId) : Option Value := match T t with
  | some (ti, _) => match ti.zero with
    | some z => bif plain z then some z else none
    | none => none
  | none => none

def okv (ok : Bool) (v : Value) (b : Bool) : Value := match ok with
  | true => .tuple #[v, .bool b]
  | false => v
def look (T : Tb) (h : Hp) (t : TypeId) (m k : Value) (ok : Bool) : Option Value :=
  match T t with
  | some (_, .map kt e) => match T kt, zerov T e with
    | some (_, kd), some z => bif keyKind kd then
        match m with
        | .map none => some (okv ok z false)
        | .map (some r) => match h.at r with
          | some (.map es _) => match Instr.findNow kd k es 0 with
            | some (some (_, v)) => some (okv ok v true)
            | some none => some (okv ok z false)
            | none => none
          | _ => none
        | _ => none
      else none
    | _, _ => none
  | _ => none

def cond2 {α : Type} (b : Bool) (x : Option α) : Option α := bif b then x else none

def lenv (T : Tb) (h : Hp) (t : TypeId) (x : Value) : Option Value :=
  match T t, x with
  | some (_, .string), .string s => some (.int .i64 s.size)
  | some (_, .slice _), .slice _ n _ => some (.int .i64 n)
  | some (_, .array n _), _ => some (.int .i64 n)
  | some (_, .map _ _), .map none => some (.int .i64 0)
  | some (_, .map _ _), .map (some r) => match h.at r with
    | some (.map es _) => some (.int .i64 es.length)
    | _ => none
  | _, _ => none

def places (T : Tb) : List Field → Option (List (Nat × Nat))
  | [] => some []
  | f :: l => match T f.type, places T l with
    | some (ti, _), some r => some ((f.offset, ti.size) :: r)
    | _, _ => none

/-- what only reads -/
def opv (T : Tb) (h : Hp) (ev : Evl) (op : Op) : Option Value :=
  match op with
  | .move x => ev x
  | .assign x => ev x
  | .pick c a b => match ev c with
    | some (.bool true) => ev a
    | some (.bool false) => ev b
    | _ => none
  | .load t x => match ev x with
    | some (.pointer (some a)) => ldv T h t a
    | _ => none
  | .nilCheck x => match ev x with
    | some (.pointer (some a)) => some (.pointer (some a))
    | some (.func (.func f) b c) => some (.func (.func f) b c)
    | some (.iface t v) => some (.iface t v)
    | _ => none
  | .binOp op t x y _ => match ev x, ev y with
    | some a, some b => bin T h op t x y a b
    | _, _ => none
  | .unOp op _ x => match ev x with
    | some v => cond2 (scal v) (scalO (puree (Op.unary op v)))
    | none => none
  | .convert s d x => match ev x with
    | some v => conv T h s d v
    | none => none
  | .makeInterface t x => match T t, ev x with
    | some (_, d), some v => bif isIf d then none else some (.iface t v)
    | _, _ => none
  | .makeFunc (.func f) a b => match evs ev a.toList, evs ev b.toList with
    | some l, some r => some (.func (.func f) l.toArray r.toArray)
    | _, _ => none
  | .slice t x lo hi none => match ev x with
    | some v => slc T h ev t v lo hi
    | none => none
  | .fieldAddr s x f => match T s, ev x with
    | some (_, .struct fs), some (.pointer (some a)) => match fs[f]? with
      | some fd => match T fd.type with
        | some (ti, _) => bif Nat.beq ti.size 0 then none else some (.pointer (some (a.add fd.offset)))
        | none => none
      | none => none
    | _, _ => none
  | .field t x f => match T t, ev x with
    | some (_, .struct fs), some (.agg cs) => match fs[f]? with
      | some fd => partv T fd.type cs.toList fd.offset
      | none => none
    | _, _ => none
  | .indexAddr t x i => match T t, ev x, ev i with
    | some (_, .slice e), some (.slice (some a) n _), some (.int _ j) => match T e with
      | some (ti, _) => bif decide (0 ≤ j) && Nat.blt j.toNat n then some (.pointer (some (a.add (j.toNat * ti.size)))) else none
      | none => none
    | some (_, .array n e), some (.pointer (some a)), some (.int _ j) => match T e with
      | some (ti, _) => bif decide (0 ≤ j) && Nat.blt j.toNat n then some (.pointer (some (a.add (j.toNat * ti.size)))) else none
      | none => none
    | _, _, _ => none
  | .index t x i => match T t, ev x, ev i with
    | some (_, .array n e), some (.agg cs), some (.int _ j) => match T e with
      | some (ti, _) => bif decide (0 ≤ j) && Nat.blt j.toNat n then partv T e cs.toList (j.toNat * ti.size) else none
      | none => none
    | some (_, .string), some (.string s), some (.int _ j) => bif decide (0 ≤ j) then
        match s[j.toNat]? with
        | some b => some (.int .u8 b.toNat)
        | none => none
      else none
    | _, _, _ => none
  | .lookup t m k ok => match ev m, ev k with
    | some m, some k => look T h t m k ok
    | _, _ => none
  | .typeAssert x _ t ok => match T t, zerov T t, ev x with
    | some (_, d), some z, some (.iface u v) => bif isIf d then none else bif Nat.beq u t then some (okv ok v true) else cond2 ok (some (okv true z false))
    | some (_, d), some z, some .nilIface => cond2 ok (some (okv true z false))
    | _, _, _ => none
  | .extract x i => match ev x with
    | some (.tuple vs) => vs[i]?
    | _ => none
  | .build t ps => match T t, zerov T t, evps ev ps.toList with
    | some (_, .struct fs), some z, some l => match places T fs.toList with
      | some pl => match Instr.fill (fun i => pl[i]?) z.cells l with
        | some cs => some (.agg cs)
        | none => none
      | none => none
    | some (_, .array _ e), some z, some l => match T e with
      | some (ti, _) => match Instr.fill (fun i => some (i * ti.size, ti.size)) z.cells l with
        | some cs => some (.agg cs)
        | none => none
      | none => none
    | _, _, _ => none
  | .call ⟨.builtin .len, as, ts⟩ => match ts.toList, evs ev as.toList with
    | t :: _, some (x :: _) => lenv T h t x
    | _, _ => none
  | .call ⟨.builtin .max, as, _⟩ => match evs ev as.toList with
    | some l => cond2 (l.all scal) (scalO (puree (Builtin.max_ #[] 0 l.toArray)))
    | none => none
  | .call ⟨.builtin .min, as, _⟩ => match evs ev as.toList with
    | some l => cond2 (l.all scal) (scalO (puree (Builtin.min_ #[] 0 l.toArray)))
    | none => none
  | _ => none

/-- what an operation comes to that does more than read -/
inductive Out where
  | val (v : Value) (h : Hp)
  | call (f : FuncId) (args : List Value)
  | defer (f : FuncId) (args cap : List Value)
  | panic (t : TypeId) (v : Value)

def roomy (h : Hp) : Bool := Nat.blt h.nx 1000000
def new (h : Hp) (c : List Value) (t : TypeId) (ex : Bool) (v : Value) : Option Out :=
  bif roomy h then some (.val v (h.add (.cells c t ex))) else none
def ptr (k : Nat) : Value := .pointer (some ⟨k, 0, none⟩)

def rep (z : List Value) : Nat → List Value
  | 0 => []
  | n + 1 => z ++ rep z n
def srcCells (h : Hp) (size : Nat) : Value → Option (Nat × List Value)
  | .slice none n _ => bif Nat.beq n 0 then some (0, []) else none
  | .slice (some b) n _ => match rd h b.block b.off (n * size) with
    | some l => some (n, l)
    | none => none
  | .string s => some (s.size, s.data.toList.map fun b => .int .u8 b.toNat)
  | _ => none
def apnd (T : Tb) (h : Hp) (ts : List TypeId) (s x : Value) : Option Out :=
  match ts with
  | [t, tx] => match T t, T tx with
    | some (_, .slice e), some (_, dx) => bif isInt dx then none else match T e, zerov T e with
      | some (ti, _), some z => match srcCells h ti.size x, s with
        | some (n, news), .slice base l c =>
          bif !(news.all one) || !(Nat.blt 0 ti.size) || !(Nat.beq z.cells.size ti.size) || !(Nat.blt (l + n) 1000000) || !(Nat.blt ti.bytes 1000000) || !(Nat.beq news.length (n * ti.size)) then none else
          match base with
          | none => bif !(Nat.beq l 0 && Nat.beq c 0) then none else bif Nat.beq n 0 then some (.val s h) else new h news e false (.slice (some ⟨h.nx, 0, none⟩) n n)
          | some a =>
            bif Nat.ble (l + n) c then
              (match wr h a.block (a.off + l * ti.size) news with
               | some h' => some (.val (.slice (some a) (l + n) c) h')
               | none => none)
            else match h.at a.block with
              | some (.cells cs _ true) => match rd h a.block a.off (l * ti.size) with
                | some old => new h (old ++ news) e false (.slice (some ⟨h.nx, 0, none⟩) (l + n) (l + n))
                | none => none
              | some (.cells cs u false) =>
                bif Nat.blt a.block 1000000 && Nat.beq a.off 0 && Nat.beq l c && Nat.beq cs.length (c * ti.size) && Nat.beq u e then
                  new (h.set a.block none) (cs ++ news) e false (.slice (some ⟨h.nx, 0, none⟩) (l + n) (l + n))
                else none
              | _ => none
        | _, _ => none
      | _, _ => none
    | _, _ => none
  | _ => none
def lenS : Value → Nat
  | .slice _ k _ => k
  | .string s => s.size
  | _ => 0
def srcN (h : Hp) (size q : Nat) : Value → Option (List Value)
  | .slice none _ _ => some []
  | .slice (some b) _ _ => rd h b.block b.off (q * size)
  | .string s => some ((s.extract 0 q).data.toList.map fun (b : UInt8) => .int .u8 b.toNat)
  | _ => none
def copyv (T : Tb) (h : Hp) (ts : List TypeId) (d x : Value) : Option Out :=
  match ts with
  | t :: _ => match T t with
    | some (_, .slice e) => match T e, d with
      | some (ti, _), .slice base n _ => match srcN h ti.size (Nat.min (lenS x) n) x, base with
        | some l, none => some (.val (.int .i64 (Nat.min (lenS x) n)) h)
        | some l, some a => match wr h a.block a.off l with
          | some h' => some (.val (.int .i64 (Nat.min (lenS x) n)) h')
          | none => none
        | _, _ => none
      | _, _ => none
    | _ => none
  | _ => none
def setEnt (k v : Value) : Nat → List MapEntry → List MapEntry
  | _, [] => []
  | 0, e :: l => { e with key := k, val := v } :: l
  | n + 1, e :: l => e :: setEnt k v n l
def mapPut (T : Tb) (h : Hp) (t : TypeId) (m k v : Value) : Option Out :=
  match T t, m with
  | some (_, .map kt _), .map (some r) => match T kt, h.at r with
    | some (_, kd), some (.map es ck) => bif Nat.blt r 1000000 && keyKind kd && scal k && one v then
        match Instr.findNow kd k es 0 with
        | some (some (i, _)) => some (.val (.tuple #[]) (h.set r (some (.map (setEnt k v i es) ck))))
        | some none => some (.val (.tuple #[]) (h.set r (some (.map (es ++ [⟨k, v, ck⟩]) (ck + 1)))))
        | none => none
      else none
    | _, _ => none
  | _, _ => none
def mapDel (T : Tb) (h : Hp) (t : TypeId) (m k : Value) : Option Out :=
  match T t, m with
  | some (_, .map kt _), .map (some r) => match T kt, h.at r with
    | some (_, kd), some (.map es ck) => bif Nat.blt r 1000000 && keyKind kd then
        match Instr.findNow kd k es 0 with
        | some (some (i, _)) => some (.val (.tuple #[]) (h.set r (some (.map (es.eraseIdx i) ck))))
        | some none => some (.val (.tuple #[]) h)
        | none => none
      else none
    | _, _ => none
  | _, _ => none

/-- the one entry that is left, of a map that is gone over -/
def nextv (h : Hp) (r : Nat) : Option Out := match h.at r with
  | some (.mit none _ _ _) => some (.val (.tuple #[.bool false]) h)
  | some (.mit (some m) since seen last) => match h.at m with
    | some (.map es ck) =>
      match es.filter (fun e => !seen.contains e.born) with
      | [] => bif seen.isEmpty || es.isEmpty || !(es.all fun e => Nat.ble last e.born) then some (.val (.tuple #[.bool false]) h) else none
      | [e] => bif Nat.blt r 1000000 && Nat.blt e.born since && (seen.isEmpty || !(es.all fun e => Nat.ble last e.born)) then some (.val (.tuple #[.bool true, e.key, e.val]) (h.set r (some (.mit (some m) since (seen ++ [e.born]) ck)))) else none
      | _ => none
    | _ => none
  | _ => none

def opx (T : Tb) (h : Hp) (ev : Evl) (op : Op) : Option Out :=
  match op with
  | .alloc t => match zerov T t with
    | some z => new h z.cells.toList t true (ptr h.nx)
    | none => none
  | .box t x => match ev x with
    | some v => new h v.cells.toList t true (ptr h.nx)
    | none => none
  | .buildSlice t n ps => match T t, evps ev ps.toList with
    | some (_, .slice e), some l => match T e, zerov T e with
      | some (ti, _), some z => bif Nat.beq z.cells.size ti.size && Nat.blt 0 ti.size && Nat.blt (n * ti.size) 1000000 then
          match Instr.fill (fun i => some (i * ti.size, ti.size)) (rep z.cells.toList n).toArray l with
          | some cs => new h cs.toList e true (.slice (some ⟨h.nx, 0, none⟩) n n)
          | none => none
        else none
      | _, _ => none
    | _, _ => none
  | .makeMap t r => match T t, (match r with | none => some (Value.int .i64 0) | some x => ev x) with
    | some (_, .map _ _), some (.int _ _) => bif roomy h then some (.val (.map (some h.nx)) (h.add (.map [] 0))) else none
    | _, _ => none
  | .makeSlice t x y => match T t, ev x, ev y with
    | some (_, .slice e), some (.int _ n), some (.int _ c) => match T e, zerov T e with
      | some (ti, _), some z => bif decide (0 ≤ n) && decide (n ≤ c) && decide (c < 1000000) && Nat.blt ti.bytes 1000000 && Nat.beq z.cells.size ti.size && Nat.blt 0 ti.size then
          new h (rep z.cells.toList c.toNat) e true (.slice (some ⟨h.nx, 0, none⟩) n.toNat c.toNat)
        else none
      | _, _ => none
    | _, _, _ => none
  | .store t x y => match T t, ev x, ev y with
    | some (ti, _), some (.pointer (some a)), some v => bif Nat.beq v.cells.size ti.size then
        match wr h a.block a.off v.cells.toList with
        | some h' => some (.val (.tuple #[]) h')
        | none => none
      else none
    | _, _, _ => none
  | .mapUpdate t m k v => match ev m, ev k, ev v with
    | some m, some k, some v => mapPut T h t m k v
    | _, _, _ => none
  | .convert s d x => match T s, T d, ev x with
    | some (_, .string), some (_, .slice e), some (.string b) => match T e with
      | some (ti, .int .u8) => bif Nat.beq ti.size 1 then new h (b.data.toList.map fun b => .int .u8 b.toNat) e false (.slice (some ⟨h.nx, 0, none⟩) b.size b.size) else none
      | _ => none
    | _, _, _ => none
  | .call ⟨.builtin .append, as, ts⟩ => match evs ev as.toList with
    | some [s, x] => apnd T h ts.toList s x
    | _ => none
  | .call ⟨.builtin .copy, as, ts⟩ => match evs ev as.toList with
    | some [s, x] => copyv T h ts.toList s x
    | _ => none
  | .call ⟨.builtin .delete, as, ts⟩ => match ts.toList, evs ev as.toList with
    | t :: _, some [m, k] => mapDel T h t m k
    | _, _ => none
  | .call ⟨.value f, as, _⟩ => match ev f, evs ev as.toList with
    | some (.func (.func g) a b), some l => some (.call g (a.toList ++ l ++ b.toList))
    | _, _ => none
  | .defer ⟨.value f, as, _⟩ => match ev f, evs ev as.toList with
    | some (.func (.func g) a b), some l => some (.defer g (a.toList ++ l) b.toList)
    | _, _ => none
  | .panic x => match ev x with
    | some (.iface t v) => some (.panic t v)
    | _ => none
  | .range t x => match T t, ev x with
    | some (_, .map _ _), some (.map none) => bif roomy h then some (.val (ptr h.nx) (h.add (.mit none 0 [] 0))) else none
    | some (_, .map _ _), some (.map (some m)) => match h.at m with
      | some (.map _ ck) => bif roomy h then some (.val (ptr h.nx) (h.add (.mit (some m) ck [] ck))) else none
      | _ => none
    | _, _ => none
  | .next x false => match ev x with
    | some (.pointer (some ⟨r, 0, _⟩)) => nextv h r
    | _ => none
  | _ => none

/-! code -/
inductive Ex where
  | normal
  | exit (id : Nat)
  | ret
  | panic (ch : List (TypeId × Value × Bool))

structure Df where
  f : FuncId
  args : List Value
  cap : List Value

structure St where
  n : Nat
  env : Tr Value
  ds : List Df
  hp : Hp

def St.put (s : St) (d : Option Tmp) (v : Value) (h : Hp) : Option St := match d with
  | none => some ⟨s.n, s.env, s.ds, h⟩
  | some d => bif Nat.blt d s.n && Nat.blt d 1000000 then some ⟨s.n, s.env.put (some v) 20 d, s.ds, h⟩ else none

/-- how a call ends -/
inductive En where
  | ret (v : Value) (h : Hp)
  | panic (ch : List (TypeId × Value × Bool)) (h : Hp)

abbrev Run := Code → St → Option (Ex × St)
abbrev Cal := FuncId → List Value → Hp → Option En

def dstOf (ops : List Oper) (j : Nat) : Option Tmp := match ops[j]? with
  | some o => o.dst
  | none => none
/-- is the operation wanted? -/
def wantd (ops : List Oper) (env : Tr Value) (o : Oper) : Option Bool := match o.guard with
  | none => some true
  | some (j, want) => match dstOf ops j with
    | some t => match env.get t with
      | some (.bool b) => some (b == want)
      | _ => none
    | none => none

def stepOp (T : Tb) (cal : Cal) (o : Oper) (s : St) : Option (Ex × St) :=
  match opv T s.hp (evO s.env) o.op with
  | some v => match s.put o.dst v s.hp with
    | some s' => some (.normal, s')
    | none => none
  | none => match opx T s.hp (evO s.env) o.op with
    | some (.val v h) => match s.put o.dst v h with
      | some s' => some (.normal, s')
      | none => none
    | some (.call f args) => match cal f args s.hp with
      | some (.ret v h) => match s.put o.dst v h with
        | some s' => some (.normal, s')
        | none => none
      | some (.panic ch h) => some (.panic ch, ⟨s.n, s.env, s.ds, h⟩)
      | none => none
    | some (.defer f args cap) => match s.put o.dst (.tuple #[]) s.hp with
      | some s' => some (.normal, ⟨s'.n, s'.env, ⟨f, args, cap⟩ :: s'.ds, s'.hp⟩)
      | none => none
    | some (.panic t v) => some (.panic [(t, v, false)], s)
    | none => none

def seqOps (T : Tb) (cal : Cal) (ops : List Oper) : List Oper → St → Option (Ex × St)
  | [], s => some (.normal, s)
  | o :: rest, s => match wantd ops s.env o with
    | some true => match stepOp T cal o s with
      | some (.normal, s') => seqOps T cal ops rest s'
      | r => r
    | some false => match s.put o.dst (.tuple #[]) s.hp with
      | some s' => seqOps T cal ops rest s'
      | none => none
    | none => none

/-! regions whose order is open -/
def looks (ops : List Oper) (o : Oper) : List Tmp :=
  (o.op.operands.toList.filterMap fun | .tmp t => some t | _ => none) ++
  (match o.guard with
   | some (g, _) => (dstOf ops g).toList
   | none => [])
def binds (e : Edge) : Bool := Region.binds .any e
/-- who must have come ahead of each operation, as bits, the last one first -/
def masks : List Oper → List Nat → List Nat
  | [], acc => acc
  | o :: l, acc => masks l ((o.after.toList.foldl (fun s e => bif binds e then s ||| 2 ^ e.on ||| acc.reverse.getD e.on 0 else s) 0) :: acc)
def apart2 (ops : List Oper) (x y : Oper) : Bool :=
  (match x.dst with
   | some d => !(looks ops y).contains d
   | none => true) &&
  (match y.dst with
   | some d => !(looks ops x).contains d
   | none => true)
def dstNe (x y : Oper) : Bool := match x.dst, y.dst with
  | some a, some b => !(Nat.beq a b)
  | _, _ => true
def isSel : Op → Bool
  | .select .. => true
  | _ => false
def edgesOk (i : Nat) (o : Oper) : Bool := o.after.toList.all fun e => !binds e || Nat.blt e.on i
def guardOk (m : Nat) (o : Oper) : Bool := match o.guard with
  | none => true
  | some (j, _) => m.testBit j
/-- any two are in order, or don't touch one another -/
def pairsOk (ops : List Oper) (ms : List Nat) : Bool :=
  ops.zipIdx.all fun (y, j) => !(isSel y.op) && edgesOk j y && guardOk (ms.getD j 0) y && (ops.zipIdx.all fun (x, i) => !(Nat.blt i j) || (dstNe x y && ((ms.getD j 0).testBit i || apart2 ops x y)))

/-- what an operation came to: a value, of memory or not; a new object; an effect, with the memory behind it -/
inductive Rc where
  | val (v : Value) (rd : Bool)
  | new (v : Value) (o : Ob)
  | eff (v : Value) (h : Hp)
def Rc.v : Rc → Value
  | .val v _ => v
  | .new v _ => v
  | .eff v _ => v

def emp (nx : Nat) : Hp := ⟨.nil, nx⟩
def sameV : Value → Value → Bool
  | .bool a, .bool b => a == b
  | .int k a, .int k' b => decide (k = k') && decide (a = b)
  | .string a, .string b => decide (a.data.toList = b.data.toList)
  | .pointer none, .pointer none => true
  | .pointer (some a), .pointer (some b) => Nat.beq a.block b.block && Nat.beq a.off b.off && a.spot.isNone && b.spot.isNone
  | .slice none l c, .slice none l' c' => Nat.beq l l' && Nat.beq c c'
  | .slice (some a) l c, .slice (some b) l' c' => Nat.beq a.block b.block && Nat.beq a.off b.off && a.spot.isNone && b.spot.isNone && Nat.beq l l' && Nat.beq c c'
  | .map none, .map none => true
  | .map (some a), .map (some b) => Nat.beq a b
  | .nilFunc, .nilFunc => true
  | .nilIface, .nilIface => true
  | .complex k a b, .complex k' a' b' => decide (k = k') && Nat.beq a a' && Nat.beq b b'
  | _, _ => false
def sameL : List Value → List Value → Bool
  | [], [] => true
  | a :: l, b :: m => sameV a b && sameL l m
  | _, _ => false
def same : Value → Value → Bool
  | .agg a, .agg b => sameL a.toList b.toList
  | .tuple a, .tuple b => sameL a.toList b.toList
  | a, b => sameV a b

/-- these slots alone -/
def evL (ls : List Tmp) (env : Tr Value) : Evl
  | .tmp k => bif ls.contains k then env.get k else none
  | x => evO env x

/-- the slots behind the first operations -/
def envR : List Oper → List Rc → Tr Value → Tr Value
  | o :: os, r :: rs, e => envR os rs (match o.dst with
    | some d => e.put (some r.v) 20 d
    | none => e)
  | _, _, e => e
def effL : Nat → List Rc → List (Nat × Hp)
  | _, [] => []
  | i, .eff _ h :: l => (i, h) :: effL (i + 1) l
  | i, _ :: l => effL (i + 1) l
def newL : Nat → List Rc → List (Nat × Ob)
  | _, [] => []
  | i, .new _ o :: l => (i, o) :: newL (i + 1) l
  | i, _ :: l => newL (i + 1) l
/-- memory behind the effects -/
def curH (h0 : Hp) : List (Nat × Hp) → Hp
  | [] => h0
  | (_, h) :: l => curH h l
/-- has an effect met this new object? -/
def mgd (ms : List Nat) (es : List (Nat × Hp)) (i : Nat) : Bool := es.any fun e => (ms.getD e.1 0).testBit i
def mergeR (ms : List Nat) (m base : Nat) (es : List (Nat × Hp)) : List (Nat × Ob) → Hp → Hp
  | [], h => h
  | (i, o) :: l, h => mergeR ms m base es l (bif m.testBit i && !(mgd ms es i) then h.set (base + i) (some o) else h)

def reads (T : Tb) (h : Hp) (ls : List Tmp) (env : Tr Value) (op : Op) (v : Value) : Bool := match opv T h (evL ls env) op with
  | some u => same u v
  | none => false
/-- is it read so ahead of each effect that need not come first? -/
def readsBack (T : Tb) (ls : List Tmp) (env : Tr Value) (op : Op) (v : Value) (m : Nat) : Hp → List (Nat × Hp) → Bool
  | h0, [] => reads T h0 ls env op v
  | h0, (e, h) :: l => (m.testBit e || reads T h0 ls env op v) && readsBack T ls env op v m h l
/-- and behind this one, where it need not come ahead of it? -/
def readsOn (T : Tb) (ops : List Oper) (env0 : Tr Value) (h : Hp) (m : Nat) (R : List Rc) : Nat → List Rc → Bool
  | _, [] => true
  | i, .val v true :: l => (m.testBit i || (match ops[i]? with
      | some o => reads T h (looks ops o) (envR ops (R.take i) env0) o.op v
      | none => false)) && readsOn T ops env0 h m R (i + 1) l
  | i, _ :: l => readsOn T ops env0 h m R (i + 1) l

abbrev Ch := List (TypeId × Value × Bool)
inductive DrR where
  | go (r : Rc)
  | panic (ch : Ch) (h : Hp)

def stepE (T : Tb) (cal : Cal) (ops : List Oper) (env0 : Tr Value) (m : Nat) (R : List Rc) (B : Hp) (o : Oper) (ev : Evl) : Option DrR :=
  match opx T B ev o.op with
  | some (.val v h) => bif readsOn T ops env0 h m R 0 R then some (.go (.eff v h)) else none
  | some (.call f args) => match cal f args B with
    | some (.ret v h) => bif readsOn T ops env0 h m R 0 R then some (.go (.eff v h)) else none
    | some (.panic ch h) => some (.panic ch h)
    | none => none
  | some (.panic t v) => some (.panic [(t, v, false)] B)
  | _ => none
def stepR (T : Tb) (cal : Cal) (base : Nat) (ops : List Oper) (ms : List Nat) (h0 : Hp) (env0 : Tr Value) (R : List Rc) (o : Oper) : Option DrR :=
  let i := R.length
  let m := ms.getD i 0
  let env := envR ops R env0
  let ls := looks ops o
  let es := effL 0 R
  match wantd ops env o with
  | none => none
  | some false => some (.go (.val (.tuple #[]) false))
  | some true =>
    match opv T (emp 0) (evL ls env) o.op with
    | some v => some (.go (.val v false))
    | none => match opv T (curH h0 es) (evL ls env) o.op with
      | some v => bif readsBack T ls env o.op v m h0 es then some (.go (.val v true)) else none
      | none => match opx T (emp (base + i)) (evL ls env) o.op with
        | some (.val v h) => match h.at (base + i) with
          | some ob => bif Nat.beq h.nx (base + i + 1) then some (.go (.new v ob)) else none
          | none => none
        | _ => bif es.all (fun e => m.testBit e.1) then stepE T cal ops env0 m R (mergeR ms m base es (newL 0 R) (curH h0 es)) o (evL ls env) else none
def notEff : Rc → Bool
  | .eff .. => false
  | _ => true
abbrev Pan := Option (Nat × Ch × Hp)
def goR (T : Tb) (cal : Cal) (base : Nat) (ops : List Oper) (ms : List Nat) (h0 : Hp) (env0 : Tr Value) : List Oper → List Rc → Pan → Option (List Rc × Pan)
  | [], R, p => some (R, p)
  | o :: rest, R, none => match stepR T cal base ops ms h0 env0 R o with
    | some (.go r) => goR T cal base ops ms h0 env0 rest (R ++ [r]) none
    | some (.panic ch h) => goR T cal base ops ms h0 env0 rest (R ++ [.val (.tuple #[]) false]) (some (R.length, ch, h))
    | none => none
  | o :: rest, R, some (i, ch, h) => bif (ms.getD R.length 0).testBit i then goR T cal base ops ms h0 env0 rest (R ++ [.val (.tuple #[]) false]) (some (i, ch, h))
    else match stepR T cal base ops ms h0 env0 R o with
    | some (.go r) => bif notEff r then goR T cal base ops ms h0 env0 rest (R ++ [r]) (some (i, ch, h)) else none
    | _ => none

def mergeAll (ms : List Nat) (base : Nat) (es : List (Nat × Hp)) : List (Nat × Ob) → Hp → Hp
  | [], h => h
  | (i, o) :: l, h => mergeAll ms base es l (bif mgd ms es i then h else h.set (base + i) (some o))
def dropD : List Oper → Tr Value → Tr Value
  | [], e => e
  | o :: l, e => dropD l (match o.dst with
    | some d => e.put none 20 d
    | none => e)
def dstsOk (n : Nat) (ops : List Oper) : Bool := ops.all fun o => match o.dst with
  | some d => Nat.blt d n && Nat.blt d 1000000
  | none => true

def drawn (T : Tb) (cal : Cal) (ops : List Oper) (s : St) : Option (Ex × St) :=
  let ms := (masks ops []).reverse
  bif pairsOk ops ms && dstsOk s.n ops && Nat.blt (s.hp.nx + ops.length) 1000000 then
    let base := s.hp.nx
    let h0 : Hp := ⟨s.hp.t, base + ops.length⟩
    match goR T cal base ops ms h0 s.env ops [] none with
    | some (R, none) => some (.normal, ⟨s.n, envR ops R s.env, s.ds, mergeAll ms base (effL 0 R) (newL 0 R) (curH h0 (effL 0 R))⟩)
    | some (_, some (_, ch, h)) => some (.panic ch, ⟨s.n, dropD ops s.env, s.ds, h⟩)
    | none => none
  else none

/-! calls -/
def envOf : Nat → List Value → Tr Value → Tr Value
  | _, [], t => t
  | k, v :: l, t => envOf (k + 1) l (t.put (some v) 20 k)
def resl (T : Tb) (h : Hp) (env : Tr Value) : List ResultVar → Option (List Value)
  | [] => some []
  | .tmp t :: l => match env.get t, resl T h env l with
    | some v, some r => some (v :: r)
    | _, _ => none
  | .cell a t :: l => match env.get a with
    | some (.pointer (some x)) => match ldv T h t x, resl T h env l with
      | some v, some r => some (v :: r)
      | _, _ => none
    | _ => none
def resv (T : Tb) (h : Hp) (env : Tr Value) (l : List ResultVar) : Option Value := match resl T h env l with
  | some [v] => some v
  | some vs => some (.tuple vs.toArray)
  | none => none

/-- how a frame is left -/
inductive Md where
  | ret
  | panic (ch : Ch)

def settleM : Md → Md
  | .panic ((_, _, true) :: _) => .ret
  | m => m
def raisedM : Md → Ch → Md
  | .panic old, ch => .panic (ch ++ old)
  | .ret, ch => .panic ch

/-- code of a deferred function that may recover: sequences, conditions, regions -/
def recOps (T : Tb) (cal : Cal) (ops : List Oper) : List Oper → St → Md → Option (Ex × St × Md)
  | [], s, u => some (.normal, s, u)
  | o :: rest, s, u => match wantd ops s.env o with
    | some true => match o.op with
      | .call ⟨.builtin .recover, _, _⟩ => match u with
        | .panic ((t, v, false) :: older) => match s.put o.dst (.iface t v) s.hp with
          | some s' => recOps T cal ops rest s' (.panic ((t, v, true) :: older))
          | none => none
        | .ret => match s.put o.dst .nilIface s.hp with
          | some s' => recOps T cal ops rest s' u
          | none => none
        | _ => none
      | _ => match stepOp T cal o s with
        | some (.normal, s') => recOps T cal ops rest s' u
        | some (e, s') => some (e, s', u)
        | none => none
    | some false => match s.put o.dst (.tuple #[]) s.hp with
      | some s' => recOps T cal ops rest s' u
      | none => none
    | none => none
def recov (T : Tb) (ex : Run) (cal : Cal) : Code → St → Md → Option (Ex × St × Md)
  | .seq a b, s, u => match recov T ex cal a s u with
    | some (.normal, s', u') => recov T ex cal b s' u'
    | r => r
  | .cond c a b, s, u => match evO s.env c with
    | some (.bool true) => recov T ex cal a s u
    | some (.bool false) => recov T ex cal b s u
    | _ => none
  | .region _ ops false, s, u => recOps T cal ops.toList ops.toList s u
  | c, s, u => match ex c s with
    | some (e, s') => some (e, s', u)
    | none => none

abbrev Fb := FuncId → Option Func
def start (fn : Func) (args : List Value) (h : Hp) : Option St :=
  bif Nat.ble args.length fn.ntmps && Nat.blt args.length 1000 then some ⟨fn.ntmps, envOf 0 args .nil, [], h⟩ else none

/-- a deferred call -/
def defd (T : Tb) (F : Fb) (ex : Run) (cal : Cal) (d : Df) (u : Md) (h : Hp) : Option (Md × Hp) :=
  match F d.f with
  | none => none
  | some fn => match fn.body, start fn (d.args ++ d.cap) h with
    | some c, some s => match recov T ex cal c s u with
      | some (.normal, s', u') => fin s' u' fn
      | some (.ret, s', u') => fin s' u' fn
      | some (.panic ch, s', u') => bif s'.ds.isEmpty then some (raisedM u' ch, s'.hp) else none
      | _ => none
    | _, _ => none
where
  fin (s : St) (u : Md) (fn : Func) : Option (Md × Hp) :=
    bif s.ds.isEmpty then match resv T s.hp s.env fn.results.toList with
      | some _ => some (settleM u, s.hp)
      | none => none
    else none
def leave (T : Tb) (F : Fb) (ex : Run) (cal : Cal) (fn : Func) (env : Tr Value) : List Df → Md → Hp → Option En
  | [], .ret, h => match resv T h env fn.results.toList with
    | some v => some (.ret v h)
    | none => none
  | [], .panic ch, h => some (.panic ch h)
  | d :: ds, u, h => match defd T F ex cal d u h with
    | some (u', h') => leave T F ex cal fn env ds u' h'
    | none => none

/-- calls that are told, not run -/
abbrev Hk := FuncId → List Value → Hp → Option En
def callF (T : Tb) (F : Fb) (K : Hk) (ex : Run) (cal : Cal) (f : FuncId) (args : List Value) (h : Hp) : Option En :=
  match K f args h with
  | some e => some e
  | none => match F f with
    | none => none
    | some fn => match fn.body, start fn args h with
      | some c, some s => match ex c s with
        | some (.normal, s') => leave T F ex cal fn s'.env s'.ds .ret s'.hp
        | some (.ret, s') => leave T F ex cal fn s'.env s'.ds .ret s'.hp
        | some (.panic ch, s') => leave T F ex cal fn s'.env s'.ds (.panic ch) s'.hp
        | _ => none
      | _, _ => none

mutual
def exec (T : Tb) (F : Fb) (K : Hk) : Nat → Run
  | 0, _, _ => none
  | n + 1, c, s => match c with
    | .skip => some (.normal, s)
    | .label _ => some (.normal, s)
    | .exit id => some (.exit id, s)
    | .ret => some (.ret, s)
    | .seq a b => match exec T F K n a s with
      | some (.normal, s') => exec T F K n b s'
      | r => r
    | .cond c a b => match evO s.env c with
      | some (.bool true) => exec T F K n a s
      | some (.bool false) => exec T F K n b s
      | _ => none
    | .block id b => match exec T F K n b s with
      | some (.exit i, s') => bif Nat.beq i id then some (.normal, s') else some (.exit i, s')
      | r => r
    | .scope b => exec T F K n b s
    | .loop b => match exec T F K n b s with
      | some (.normal, s') => exec T F K n (.loop b) s'
      | r => r
    | .region _ ops false => seqOps T (call T F K n) ops.toList ops.toList s
    | .region _ ops true => drawn T (call T F K n) ops.toList s
    | _ => none
def call (T : Tb) (F : Fb) (K : Hk) : Nat → Cal
  | 0, _, _, _ => none
  | n + 1, f, args, h => callF T F K (exec T F K n) (call T F K n) f args h
end

end Go.Ev
