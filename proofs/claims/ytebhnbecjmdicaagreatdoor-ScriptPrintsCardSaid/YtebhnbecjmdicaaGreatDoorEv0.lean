/-
  A run reckoned out by a function: what a piece of code does to slots, and to memory whose blocks go by numbers of their own (the definitions).
-/
import Derived.OrdersHeld
import Derived.Recover
import Derived.Scope
namespace Go.Ev
set_option linter.unusedVariables false
set_option linter.unusedSimpArgs false
variable {X : Type}

inductive Tr (α : Type) where
  | nil
  | node (l : Tr α) (v : Option α) (r : Tr α)

noncomputable def Tr.get {α : Type} (t : Tr α) (k : Nat) : Option α :=
  Tr.rec (motive := fun _ => Nat → Option α) (fun _ => none) (fun _ v _ ihl ihr p =>
    Nat.rec (motive := fun _ => Option α) v (fun m _ => Nat.rec (motive := fun _ => Option α) (ihl (Nat.succ m)) (fun _ _ => ihr (Nat.succ m)) (Nat.mod p 2)) (Nat.div p 2)) t (Nat.succ k)
noncomputable def Tr.put {α : Type} (v : Option α) (d : Nat) (t : Tr α) (k : Nat) : Tr α :=
  Nat.rec (motive := fun _ => Tr α → Nat → Tr α) (fun t _ => t) (fun _ ih t p =>
    Nat.rec (motive := fun _ => Tr α)
      (Tr.rec (motive := fun _ => Tr α) (.node .nil v .nil) (fun l _ r _ _ => .node l v r) t)
      (fun m _ => Nat.rec (motive := fun _ => Tr α)
        (Tr.rec (motive := fun _ => Tr α) (.node (ih .nil (Nat.succ m)) none .nil) (fun l u r _ _ => .node (ih l (Nat.succ m)) u r) t)
        (fun _ _ => Tr.rec (motive := fun _ => Tr α) (.node .nil none (ih .nil (Nat.succ m))) (fun l u r _ _ => .node l u (ih r (Nat.succ m))) t) (Nat.mod p 2))
      (Nat.div p 2)) d t (Nat.succ k)
theorem Tr.get_nil {α : Type} (k : Nat) : (Tr.nil : Tr α).get k = none := rfl
theorem div_pos (k : Nat) (h : k ≠ 0) : Nat.div (Nat.succ k) 2 = Nat.succ ((k - 1) / 2) := by
  show (k + 1) / 2 = (k - 1) / 2 + 1
  omega
theorem div_zero : Nat.div (Nat.succ 0) 2 = 0 := rfl
theorem mod_even (k : Nat) (_h : k ≠ 0) (e : (k - 1) % 2 = 0) : Nat.mod (Nat.succ k) 2 = 0 := by
  show (k + 1) % 2 = 0
  omega
theorem mod_odd (k : Nat) (h : k ≠ 0) (e : (k - 1) % 2 ≠ 0) : Nat.mod (Nat.succ k) 2 = Nat.succ 0 := by
  show (k + 1) % 2 = 1
  omega
theorem Tr.get_node {α : Type} (l : Tr α) (v : Option α) (r : Tr α) (k : Nat) : (Tr.node l v r).get k = bif Nat.beq k 0 then v else bif Nat.beq ((k - 1) % 2) 0 then l.get ((k - 1) / 2) else r.get ((k - 1) / 2) := by
  cases hk : Nat.beq k 0 with
  | true => obtain rfl := Nat.eq_of_beq_eq_true hk; rfl
  | false =>
    have h0 : k ≠ 0 := fun e => by subst e; cases hk
    unfold Tr.get
    cases hb : Nat.beq ((k - 1) % 2) 0 with
    | true =>
      simp only [div_pos k h0, mod_even k h0 (Nat.eq_of_beq_eq_true hb), cond_true, cond_false]
      rfl
    | false => simp only [div_pos k h0, mod_odd k h0 (fun e => by rw [e] at hb; cases hb), cond_true, cond_false]
theorem Tr.put_zero {α : Type} (v : Option α) (t : Tr α) (k : Nat) : t.put v 0 k = t := rfl
theorem Tr.put_nil {α : Type} (v : Option α) (d k : Nat) : (Tr.nil : Tr α).put v (d + 1) k = bif Nat.beq k 0 then .node .nil v .nil else bif Nat.beq ((k - 1) % 2) 0 then .node (Tr.put v d .nil ((k - 1) / 2)) none .nil else .node .nil none (Tr.put v d .nil ((k - 1) / 2)) := by
  cases hk : Nat.beq k 0 with
  | true => obtain rfl := Nat.eq_of_beq_eq_true hk; rfl
  | false =>
    have h0 : k ≠ 0 := fun e => by subst e; cases hk
    unfold Tr.put
    cases hb : Nat.beq ((k - 1) % 2) 0 with
    | true =>
      simp only [div_pos k h0, mod_even k h0 (Nat.eq_of_beq_eq_true hb), cond_true, cond_false]
      rfl
    | false => simp only [div_pos k h0, mod_odd k h0 (fun e => by rw [e] at hb; cases hb), cond_true, cond_false]
theorem Tr.put_node {α : Type} (v : Option α) (d k : Nat) (l : Tr α) (u : Option α) (r : Tr α) : (Tr.node l u r).put v (d + 1) k = bif Nat.beq k 0 then .node l v r else bif Nat.beq ((k - 1) % 2) 0 then .node (Tr.put v d l ((k - 1) / 2)) u r else .node l u (Tr.put v d r ((k - 1) / 2)) := by
  cases hk : Nat.beq k 0 with
  | true => obtain rfl := Nat.eq_of_beq_eq_true hk; rfl
  | false =>
    have h0 : k ≠ 0 := fun e => by subst e; cases hk
    unfold Tr.put
    cases hb : Nat.beq ((k - 1) % 2) 0 with
    | true =>
      simp only [div_pos k h0, mod_even k h0 (Nat.eq_of_beq_eq_true hb), cond_true, cond_false]
      rfl
    | false => simp only [div_pos k h0, mod_odd k h0 (fun e => by rw [e] at hb; cases hb), cond_true, cond_false]
/-- an object of memory: a row of cells (no more behind them than these, or some that nothing is known of), a map, one that is gone over -/
inductive Ob (X : Type) where
  | cells (c : List Value) (t : TypeId) (ex : Bool)
  | map (es : List MapEntry) (ck : Nat)
  | mit (m : Option Nat) (since : Nat) (seen : List Nat) (last : Nat)
  | tok (sz : Nat) (t : TypeId)
  | ext (x : X)

structure Hp (X : Type) where
  t : Tr (Ob X)
  nx : Nat
noncomputable def Hp.at (h : (Hp X)) (k : Nat) : Option (Ob X) := h.t.get k
noncomputable def Hp.set (h : (Hp X)) (k : Nat) (o : Option (Ob X)) : (Hp X) := match h with
  | ⟨t, nx⟩ => ⟨t.put o 20 k, nx⟩
noncomputable def Hp.add (h : (Hp X)) (o : (Ob X)) : (Hp X) := match h with
  | ⟨t, nx⟩ => ⟨t.put (some o) 20 nx, nx + 1⟩

noncomputable def scal : Value → Bool
  | .bool _ | .int _ _ | .string _ | .pointer none | .slice none _ _ | .map none | .nilFunc | .nilIface => true
  | _ => false
noncomputable def plain : Value → Bool
  | .agg cs => cs.toList.all scal
  | .tuple vs => vs.toList.all scal
  | v => scal v
noncomputable def one : Value → Bool
  | .agg _ | .tuple _ => false
  | _ => true

/-! rows of a list that is a value: how each cell of one looks -/
inductive CK where
  | i (k : IntKind)
  | b
  | s
  | l (sz : Nat)
noncomputable def asI : Value → Int
  | .int _ n => n
  | _ => 0
noncomputable def asB : Value → Bool
  | .bool b => b
  | _ => false
noncomputable def asS : Value → ByteArray
  | .string b => b
  | _ => .empty
noncomputable def asR : Value → List Value
  | .func (.yield _) _ rows => rows.toList
  | _ => []
noncomputable def ckIs : CK → Value → Bool
  | .i k, .int k' _ => decide (k = k')
  | .b, .bool _ => true
  | .s, .string _ => true
  | .l sz, .func (.yield sz') _ _ => Nat.beq sz sz'
  | _, _ => false
/-- a list as a value: how many cells a row has, its rows; perhaps with the right to grow in place, by the number of an object -/
noncomputable def lst (sz : Nat) (rows : List Value) : Value := .func (.yield sz) #[] ⟨rows⟩
noncomputable def lstT (sz k : Nat) (rows : List Value) : Value := .func (.yield sz) ⟨[.int .i64 (.ofNat k)]⟩ ⟨rows⟩
/-- a pointer into a row: the cells from there on -/
noncomputable def elp (cs : List Value) : Value := .func (.methodOf 0 "") #[] ⟨cs⟩
noncomputable def ckP : CK → Value → Value
  | .i k, v => .int k (asI v)
  | .b, v => .bool (asB v)
  | .s, v => .string (asS v)
  | .l sz, v => lst sz (asR v)
noncomputable def rowIs : List CK → List Value → Bool
  | [], [] => true
  | k :: ks, v :: vs => ckIs k v && rowIs ks vs
  | _, _ => false
noncomputable def rowP : List CK → List Value → List Value
  | [], _ => []
  | k :: ks, cs => ckP k (cs.headD undef) :: rowP ks cs.tail
noncomputable def rowC (rows : List Value) (j : Nat) : List Value := match rows[j]? with
  | some r => r.cells.toList
  | none => []
noncomputable def flat (rows : List Value) : List Value := rows.flatMap fun r => r.cells.toList

/-- what is known of types: each one's row and shape; of which structs of whole numbers two are held against one another, by their parts; the cells of rows -/
structure Tb where
  ty : TypeId → Option (TypeInfo × TypeDesc)
  eq : TypeId → Option (List IntKind)
  kd : TypeId → Option (List CK)
instance : CoeFun Tb (fun _ => TypeId → Option (TypeInfo × TypeDesc)) := ⟨Tb.ty⟩
noncomputable def isAg : TypeDesc → Bool
  | .struct _ | .array _ _ => true
  | _ => false
noncomputable def isIf : TypeDesc → Bool
  | .interface _ => true
  | _ => false
noncomputable def isInt : TypeDesc → Bool
  | .int _ => true
  | _ => false
noncomputable def keyKind : TypeDesc → Bool
  | .int _ | .string => true
  | _ => false

noncomputable def puree {α : Type} : Sem α → Option α
  | .pure a => some a
  | _ => none
noncomputable def scalO : Option Value → Option Value
  | some v => bif scal v then some v else none
  | none => none

abbrev Evl := Operand → Option Value
noncomputable def evO (s : Tr Value) : Evl
  | .tmp k => s.get k
  | .const v => bif plain v then some v else none
  | .global _ => none
  | .func f => some (.func (.func f) #[] #[])
noncomputable def evs (ev : Evl) : List Operand → Option (List Value)
  | [] => some []
  | x :: l => match ev x with
    | some v => match evs ev l with
      | some r => some (v :: r)
      | none => none
    | none => none
noncomputable def evps (ev : Evl) : List (Nat × Operand) → Option (List (Nat × Value))
  | [] => some []
  | (i, x) :: l => match ev x with
    | some v => match evps ev l with
      | some r => some ((i, v) :: r)
      | none => none
    | none => none

/-- lists, by their recursors (quick for the kernel) -/
noncomputable def nthR {α : Type} (l : List α) (n : Nat) : Option α :=
  List.rec (motive := fun _ => Nat → Option α) (fun _ => none) (fun x _ ih n => Nat.rec (motive := fun _ => Option α) (some x) (fun m _ => ih m) n) l n
noncomputable def appR {α : Type} (a b : List α) : List α :=
  List.rec (motive := fun _ => List α) b (fun x _ ih => x :: ih) a
noncomputable def isLen {α : Type} (l : List α) (n : Nat) : Bool :=
  List.rec (motive := fun _ => Nat → Bool) (fun n => Nat.rec (motive := fun _ => Bool) true (fun _ _ => false) n) (fun _ _ ih n => Nat.rec (motive := fun _ => Bool) false (fun m _ => ih m) n) l n
noncomputable def dropR {α : Type} (l : List α) (n : Nat) : List α :=
  List.rec (motive := fun _ => Nat → List α) (fun _ => []) (fun x t ih n => Nat.rec (motive := fun _ => List α) (x :: t) (fun m _ => ih m) n) l n
noncomputable def takeR {α : Type} (l : List α) (n : Nat) : List α :=
  List.rec (motive := fun _ => Nat → List α) (fun _ => []) (fun x _ ih n => Nat.rec (motive := fun _ => List α) [] (fun m _ => x :: ih m) n) l n
noncomputable def leLen {α : Type} (l : List α) (n : Nat) : Bool :=
  List.rec (motive := fun _ => Nat → Bool) (fun n => Nat.rec (motive := fun _ => Bool) true (fun _ _ => false) n) (fun _ _ ih n => Nat.rec (motive := fun _ => Bool) true (fun m _ => ih m) n) l n
theorem nthR_eq {α : Type} : ∀ (l : List α) (n : Nat), nthR l n = l[n]?
  | [], n => by simp [nthR]
  | x :: l, 0 => rfl
  | x :: l, n + 1 => by rw [List.getElem?_cons_succ, ← nthR_eq l n]; rfl
theorem appR_eq {α : Type} : ∀ (a b : List α), appR a b = a ++ b
  | [], b => rfl
  | x :: a, b => by rw [List.cons_append, ← appR_eq a b]; rfl
theorem isLen_eq {α : Type} : ∀ (l : List α) (n : Nat), isLen l n = Nat.beq l.length n
  | [], 0 => rfl
  | [], n + 1 => rfl
  | x :: l, 0 => rfl
  | x :: l, n + 1 => by
    show isLen l n = Nat.beq (l.length + 1) (n + 1)
    rw [isLen_eq l n]; rfl
theorem dropR_eq {α : Type} : ∀ (l : List α) (n : Nat), dropR l n = l.drop n
  | [], n => by simp [dropR]
  | x :: l, 0 => rfl
  | x :: l, n + 1 => by rw [List.drop_succ_cons, ← dropR_eq l n]; rfl
theorem takeR_eq {α : Type} : ∀ (l : List α) (n : Nat), takeR l n = l.take n
  | [], n => by simp [takeR]
  | x :: l, 0 => rfl
  | x :: l, n + 1 => by rw [List.take_succ_cons, ← takeR_eq l n]; rfl
theorem leLen_eq {α : Type} : ∀ (l : List α) (n : Nat), leLen l n = Nat.ble n l.length
  | [], 0 => rfl
  | [], n + 1 => rfl
  | x :: l, 0 => rfl
  | x :: l, n + 1 => by
    show leLen l n = Nat.ble (n + 1) (l.length + 1)
    rw [leLen_eq l n]; rfl

noncomputable def rd (h : (Hp X)) (k off n : Nat) : Option (List Value) :=
  match h.at k with
  | some (.cells c _ _) => bif leLen c (off + n) then some (takeR (dropR c off) n) else none
  | _ => none
theorem rd_eq (h : (Hp X)) (k off n : Nat) : rd h k off n = match h.at k with
  | some (.cells c _ _) => bif Nat.ble (off + n) c.length then some ((c.drop off).take n) else none
  | _ => none := by
  unfold rd
  simp only [leLen_eq, takeR_eq, dropR_eq]
noncomputable def ldv (T : Tb) (h : (Hp X)) (t : TypeId) (a : Addr) : Option Value :=
  match T t with
  | some (ti, d) => match isAg d with
    | true => match rd h a.block a.off ti.size with
      | some l => some (.agg l.toArray)
      | none => none
    | false => match h.at a.block with
      | some (.cells c _ _) => nthR c a.off
      | _ => none
  | none => none
theorem ldv_eq (T : Tb) (h : (Hp X)) (t : TypeId) (a : Addr) : ldv T h t a =
    match T t with
    | some (ti, d) => match isAg d with
      | true => match rd h a.block a.off ti.size with
        | some l => some (.agg l.toArray)
        | none => none
      | false => match h.at a.block with
        | some (.cells c _ _) => c[a.off]?
        | _ => none
    | none => none := by
  unfold ldv
  simp only [nthR_eq]
noncomputable def overl : List Value → Nat → List Value → List Value
  | c, 0, vs => vs ++ c.drop vs.length
  | [], _ + 1, _ => []
  | x :: c, n + 1, vs => x :: overl c n vs
noncomputable def wr (h : (Hp X)) (k off : Nat) (vs : List Value) : Option (Hp X) :=
  match h.at k with
  | some (.cells c t ex) => bif Nat.blt k 1000000 && leLen c (off + vs.length) && vs.all one then some (h.set k (some (.cells (overl c off vs) t ex))) else none
  | _ => none
theorem wr_eq (h : (Hp X)) (k off : Nat) (vs : List Value) : wr h k off vs =
    match h.at k with
    | some (.cells c t ex) => bif Nat.blt k 1000000 && Nat.ble (off + vs.length) c.length && vs.all one then some (h.set k (some (.cells (overl c off vs) t ex))) else none
    | _ => none := by
  unfold wr
  simp only [leLen_eq]


noncomputable def exact (h : (Hp X)) (k : Nat) : Bool := match h.at k with
  | some (.cells _ _ ex) => ex
  | _ => false

/-- two pointers -/
noncomputable def samePtr (h : (Hp X)) : Option Addr → Option Addr → Option Bool
  | none, none => some true
  | some _, none => some false
  | none, some _ => some false
  | some a, some b => bif exact h a.block && exact h b.block then some (Nat.beq a.block b.block && Nat.beq a.off b.off) else none
noncomputable def isConst : Operand → Bool
  | .const _ => true
  | _ => false
noncomputable def scalEq : Value → Value → Option Bool
  | .bool a, .bool b => some (a == b)
  | .int k a, .int k' b => bif decide (k = k') then some (a == b) else none
  | .string a, .string b => some (a == b)
  | _, _ => none
noncomputable def boolOp (op : BinOp) (b : Bool) : Option Value := match op with
  | .eql => some (.bool b)
  | .neq => some (.bool !b)
  | _ => none
noncomputable def kindsAre : List IntKind → List Value → Bool
  | [], [] => true
  | k :: l, .int k' _ :: m => decide (k = k') && kindsAre l m
  | _, _ => false
noncomputable def sameI : List Value → List Value → Bool
  | .int _ a :: l, .int _ b :: m => a == b && sameI l m
  | _, _ => true
/-- an empty slice of which the place isn't known -/
noncomputable def nowh : Value := .complex .f32 0 0
/-- numbers of which the bounds are known: of 64 bits, the bounds by 2 ^ 63 too great -/
noncomputable def bias : Nat := 9223372036854775808
noncomputable def itv (lo hi : Nat) : Value := .complex .f64 lo hi
noncomputable def biased (n : Int) : Nat := (n + 9223372036854775808).toNat
noncomputable def fits64 (n : Int) : Bool := decide (-9223372036854775808 ≤ n) && decide (n < 9223372036854775808)
noncomputable def decB (t f : Bool) : Option Value := bif t then some (.bool true) else bif f then some (.bool false) else none
noncomputable def icmp (op : BinOp) (a b c d : Nat) : Option Value := match op with
  | .lss => decB (Nat.blt b c) (Nat.ble d a)
  | .leq => decB (Nat.ble b c) (Nat.blt d a)
  | .gtr => decB (Nat.blt d a) (Nat.ble b c)
  | .geq => decB (Nat.ble d a) (Nat.blt b c)
  | .eql => decB false (Nat.blt b c || Nat.blt d a)
  | .neq => decB (Nat.blt b c || Nat.blt d a) false
  | .add => some (itv 0 18446744073709551615)
  | .sub => some (itv 0 18446744073709551615)
  | .mul => some (itv 0 18446744073709551615)
  | _ => none
noncomputable def bin (T : Tb) (h : (Hp X)) (op : BinOp) (t : TypeId) (x y : Operand) (a b : Value) : Option Value :=
  match a, b with
  | .int _ _, .int _ _ => scalO (puree (binOp op t a b))
  | .string _, .string _ => scalO (puree (binOp op t a b))
  | .complex .f64 lo hi, .int .i64 n => bif fits64 n then icmp op lo hi (biased n) (biased n) else none
  | .int .i64 n, .complex .f64 lo hi => bif fits64 n then icmp op (biased n) (biased n) lo hi else none
  | .complex .f64 lo hi, .complex .f64 lo' hi' => icmp op lo hi lo' hi'
  | .bool p, .bool q => match T t with
    | some (_, .bool) => boolOp op (p == q)
    | _ => none
  | .pointer p, .pointer q => match T t with
    | some (_, .pointer e) => match T e with
      | some (ti, _) => bif Nat.beq ti.size 0 then none else match samePtr h p q with
        | some r => boolOp op r
        | none => none
      | none => none
    | _ => none
  | .nilIface, .nilIface => match T t with
    | some (_, .interface _) => bif isConst x || isConst y then boolOp op true else none
    | _ => none
  | .iface _ _, .nilIface => match T t with
    | some (_, .interface _) => boolOp op false
    | _ => none
  | .agg a, .agg b => match T.eq t with
    | some ks => bif kindsAre ks a.toList && kindsAre ks b.toList then boolOp op (sameI a.toList b.toList) else none
    | none => none
  | _, _ => none

noncomputable def bytesOf : List Value → Option (List UInt8)
  | [] => some []
  | .int .u8 n :: l => match bytesOf l with
    | some r => some (UInt8.ofNat n.toNat :: r)
    | none => none
  | _ => none
noncomputable def isU8 : Value → Bool
  | .int .u8 _ => true
  | _ => false
noncomputable def toU8 (v : Value) : UInt8 := UInt8.ofNat (asI v).toNat
noncomputable def conv (T : Tb) (h : (Hp X)) (s d : TypeId) (x : Value) : Option Value :=
  match T s, T d, x with
  | some (_, _), some (_, .int k), .int _ n => scalO (puree (Conv.intToInt k n))
  | some (_, .string), some (_, .string), .string b => some (.string b)
  | some (_, .slice e), some (_, .string), .slice none _ _ => match T e with
    | some (_, .int .u8) => some (.string .empty)
    | _ => none
  | some (_, .slice e), some (_, .string), .func (.yield 1) _ rows => match T e with
    | some (_, .int .u8) => bif rows.toList.all isU8 then some (.string ⟨(rows.toList.map toU8).toArray⟩) else none
    | _ => none
  | some (_, .slice e), some (_, .string), .slice (some a) n _ => match T e, rd h a.block a.off n with
    | some (_, .int .u8), some l => match bytesOf l with
      | some r => some (.string ⟨r.toArray⟩)
      | none => none
    | _, _ => none
  | _, _, _ => none

noncomputable def bnd (ev : Evl) (dflt hi : Nat) : Option Operand → Option Nat
  | none => some dflt
  | some x => match ev x with
    | some (.int _ i) => bif decide (0 ≤ i) && Nat.ble i.toNat hi then some i.toNat else none
    | _ => none
noncomputable def slc (T : Tb) (h : (Hp X)) (ev : Evl) (t : TypeId) (x : Value) (lo hi : Option Operand) : Option Value :=
  match T t, x with
  | some (_, .slice e), .slice a n c => match T e, bnd ev n c hi with
    | some (ti, _), some q => match bnd ev 0 q lo, Nat.ble q c with
      | some p, true => match a with
        | none => some (.slice none (q - p) (c - p))
        | some a => match Nat.beq c p with
          | true => bif exact h a.block then some (.slice (some a) (q - p) (c - p)) else some nowh
          | false => some (.slice (some (a.add (p * ti.size))) (q - p) (c - p))
      | _, _ => none
    | _, _ => none
  | some (_, .slice e), .func (.yield sz) _ rows => match T e, bnd ev rows.toList.length rows.toList.length hi with
    | some (ti, _), some q => match bnd ev 0 q lo with
      | some p => bif Nat.beq ti.size sz && Nat.blt 0 sz then some (lst sz ((rows.toList.drop p).take (q - p))) else none
      | none => none
    | _, _ => none
  | some (_, .string), .string s => match bnd ev s.size s.size hi with
    | some q => match bnd ev 0 q lo with
      | some p => some (.string (s.extract p q))
      | none => none
    | none => none
  | some (_, .array n e), .pointer (some a) => match T e, bnd ev n n hi with
    | some (ti, _), some q => match bnd ev 0 q lo with
      | some p => bif exact h a.block then some (.slice (some (bif Nat.beq n p then a else a.add (p * ti.size))) (q - p) (n - p)) else none
      | none => none
    | _, _ => none
  | _, _ => none

/-- a slice of which the capacity isn't known -/
noncomputable def loose (k o l : Nat) : Value := .complex .f32 (k + 1) (o * 4294967296 + l)
noncomputable def slc3 (T : Tb) (ev : Evl) (t : TypeId) (x : Value) (lo : Option Operand) (hi mx : Operand) : Option Value :=
  match T t, x with
  | some (_, .slice e), .slice (some a) n c => match T e, bnd ev c c (some mx) with
    | some (ti, _), some r => match bnd ev n r (some hi) with
      | some q => match bnd ev 0 q lo with
        | some p => bif Nat.blt p r && Nat.blt (q - p) 4294967296 then some (loose a.block (a.off + p * ti.size) (q - p)) else none
        | none => none
      | none => none
    | _, _ => none
  | _, _ => none
noncomputable def partv (T : Tb) (t : TypeId) (cs : List Value) (off : Nat) : Option Value :=
  match T t with
  | some (ti, d) => match isAg d with
    | true => some (.agg ((cs.drop off).take ti.size).toArray)
    | false => cs[off]?
  | none => none
noncomputable def zerov (T : Tb) (t : TypeId) : Option Value := match T t with
  | some (ti, _) => match ti.zero with
    | some z => bif plain z then some z else none
    | none => none
  | none => none

/-- a key that is a struct of whole numbers -/
noncomputable def fndA (ks : List IntKind) (c : List Value) : List MapEntry → Nat → Option (Option (Nat × Value))
  | [], _ => some none
  | e :: es, i => match e.key with
    | .agg c' => bif kindsAre ks c'.toList then (bif sameI c c'.toList then some (some (i, e.val)) else fndA ks c es (i + 1)) else none
    | _ => none
noncomputable def fnd (T : Tb) (kt : TypeId) (kd : TypeDesc) (k : Value) (es : List MapEntry) : Option (Option (Nat × Value)) :=
  bif keyKind kd then Instr.findNow kd k es 0 else match kd, T.eq kt, k with
  | .struct _, some ks, .agg c => bif kindsAre ks c.toList then fndA ks c.toList es 0 else none
  | _, _, _ => none

noncomputable def okv (ok : Bool) (v : Value) (b : Bool) : Value := match ok with
  | true => .tuple #[v, .bool b]
  | false => v
noncomputable def look (T : Tb) (h : (Hp X)) (t : TypeId) (m k : Value) (ok : Bool) : Option Value :=
  match T t with
  | some (_, .map kt e) => match T kt, zerov T e with
    | some (_, kd), some z => match m with
        | .map none => match fnd T kt kd k [] with
          | some _ => some (okv ok z false)
          | none => none
        | .map (some r) => match h.at r with
          | some (.map es _) => match fnd T kt kd k es with
            | some (some (_, v)) => some (okv ok v true)
            | some none => some (okv ok z false)
            | none => none
          | _ => none
        | _ => none
    | _, _ => none
  | _ => none

noncomputable def cond2 {α : Type} (b : Bool) (x : Option α) : Option α := bif b then x else none

noncomputable def lenv (T : Tb) (h : (Hp X)) (t : TypeId) (x : Value) : Option Value :=
  match T t, x with
  | some (_, .string), .string s => some (.int .i64 s.size)
  | some (_, .slice _), .slice _ n _ => some (.int .i64 n)
  | some (_, .slice _), .func (.yield _) _ rows => some (.int .i64 rows.toList.length)
  | some (_, .slice _), .complex .f32 0 _ => some (.int .i64 0)
  | some (_, .slice _), .complex .f32 (_ + 1) y => some (.int .i64 (.ofNat (Nat.mod y 4294967296)))
  | some (_, .array n _), _ => some (.int .i64 n)
  | some (_, .map _ _), .map none => some (.int .i64 0)
  | some (_, .map _ _), .map (some r) => match h.at r with
    | some (.map es _) => some (.int .i64 es.length)
    | _ => none
  | _, _ => none

noncomputable def places (T : Tb) : List Field → Option (List (Nat × Nat))
  | [] => some []
  | f :: l => match T f.type, places T l with
    | some (ti, _), some r => some ((f.offset, ti.size) :: r)
    | _, _ => none

/-- the entry that came last, of a map that is gone over -/
noncomputable def entryv (h : (Hp X)) (r : Nat) : Option Value := match h.at r with
  | some (.mit (some m) _ seen last) => match h.at m, seen.getLast? with
    | some (.map es ck), some st => bif Nat.beq ck last then (match es.find? (fun e => e.born == st) with
      | some e => some (.tuple #[e.key, e.val])
      | none => none) else none
    | _, _ => none
  | _ => none
/-- what stands at a place in a row -/
noncomputable def ldE (T : Tb) (t : TypeId) (cs : List Value) : Option Value := match T t with
  | some (ti, d) => match isAg d with
    | true => bif leLen cs ti.size then some (.agg ⟨takeR cs ti.size⟩) else none
    | false => match cs with
      | v :: _ => some v
      | [] => none
  | none => none
/-- what only reads -/
noncomputable def opv (T : Tb) (h : (Hp X)) (ev : Evl) (op : Op) : Option Value :=
  match op with
  | .move x => ev x
  | .assign x => ev x
  | .pick c a b => match ev c with
    | some (.bool true) => ev a
    | some (.bool false) => ev b
    | _ => none
  | .load t x => match ev x with
    | some (.pointer (some a)) => ldv T h t a
    | some (.func (.methodOf _ _) _ cs) => ldE T t cs.toList
    | _ => none
  | .nilCheck x => match ev x with
    | some (.pointer (some a)) => some (.pointer (some a))
    | some (.func (.methodOf _ _) _ cs) => some (elp cs.toList)
    | some (.func (.func f) b c) => some (.func (.func f) b c)
    | some (.iface t v) => some (.iface t v)
    | _ => none
  | .binOp op t x y _ => match ev x, ev y with
    | some a, some b => bin T h op t x y a b
    | _, _ => none
  | .unOp op _ x => match ev x with
    | some v => cond2 (scal v) (scalO (puree (Op.unary op v)))
    | none => none
  | .convert s d x => match ev x with
    | some v => conv T h s d v
    | none => none
  | .makeInterface t x => match T t, ev x with
    | some (_, d), some v => bif isIf d then none else some (.iface t v)
    | _, _ => none
  | .makeFunc (.func f) a b => match evs ev a.toList, evs ev b.toList with
    | some l, some r => some (.func (.func f) l.toArray r.toArray)
    | _, _ => none
  | .slice t x lo hi none => match ev x with
    | some v => slc T h ev t v lo hi
    | none => none
  | .slice t x lo (some hi) (some mx) => match ev x with
    | some v => slc3 T ev t v lo hi mx
    | none => none
  | .fieldAddr s x f => match T s, ev x with
    | some (_, .struct fs), some (.pointer (some a)) => match fs[f]? with
      | some fd => match T fd.type with
        | some (ti, _) => bif Nat.beq ti.size 0 then none else some (.pointer (some (a.add fd.offset)))
        | none => none
      | none => none
    | some (_, .struct fs), some (.func (.methodOf _ _) _ cs) => match fs[f]? with
      | some fd => match T fd.type with
        | some (ti, _) => bif Nat.beq ti.size 0 then none else some (elp (dropR cs.toList fd.offset))
        | none => none
      | none => none
    | _, _ => none
  | .field t x f => match T t, ev x with
    | some (_, .struct fs), some (.agg cs) => match fs[f]? with
      | some fd => partv T fd.type cs.toList fd.offset
      | none => none
    | _, _ => none
  | .indexAddr t x i => match T t, ev x, ev i with
    | some (_, .slice e), some (.slice (some a) n _), some (.int _ j) => match T e with
      | some (ti, _) => bif decide (0 ≤ j) && Nat.blt j.toNat n then some (.pointer (some (a.add (j.toNat * ti.size)))) else none
      | none => none
    | some (_, .array n e), some (.pointer (some a)), some (.int _ j) => match T e with
      | some (ti, _) => bif decide (0 ≤ j) && Nat.blt j.toNat n then some (.pointer (some (a.add (j.toNat * ti.size)))) else none
      | none => none
    | some (_, .slice e), some (.complex .f32 (k + 1) y), some (.int _ j) => match T e with
      | some (ti, _) => bif decide (0 ≤ j) && Nat.blt j.toNat (y % 4294967296) then some (.pointer (some ⟨k, y / 4294967296 + j.toNat * ti.size, none⟩)) else none
      | none => none
    | some (_, .slice e), some (.func (.yield sz) _ rows), some (.int _ j) => match T e, T.kd e with
      | some (ti, _), some ks => bif Nat.beq ti.size sz && Nat.blt 0 sz && Nat.beq ks.length sz && decide (0 ≤ j) && Nat.blt j.toNat rows.toList.length && rowIs ks (rowC rows.toList j.toNat) then some (elp (rowP ks (rowC rows.toList j.toNat))) else none
      | _, _ => none
    | _, _, _ => none
  | .index t x i => match T t, ev x, ev i with
    | some (_, .array n e), some (.agg cs), some (.int _ j) => match T e with
      | some (ti, _) => bif decide (0 ≤ j) && Nat.blt j.toNat n then partv T e cs.toList (j.toNat * ti.size) else none
      | none => none
    | some (_, .string), some (.string s), some (.int _ j) => bif decide (0 ≤ j) then
        match s[j.toNat]? with
        | some b => some (.int .u8 b.toNat)
        | none => none
      else none
    | _, _, _ => none
  | .lookup t m k ok => match ev m, ev k with
    | some m, some k => look T h t m k ok
    | _, _ => none
  | .typeAssert x _ t ok => match T t, zerov T t, ev x with
    | some (_, d), some z, some (.iface u v) => bif isIf d then none else bif Nat.beq u t then some (okv ok v true) else cond2 ok (some (okv true z false))
    | some (_, d), some z, some .nilIface => cond2 ok (some (okv true z false))
    | _, _, _ => none
  | .extract x i => match ev x with
    | some (.tuple vs) => vs[i]?
    | _ => none
  | .entry x => match ev x with
    | some (.pointer (some ⟨r, 0, _⟩)) => entryv h r
    | _ => none
  | .build t ps => match T t, zerov T t, evps ev ps.toList with
    | some (_, .struct fs), some z, some l => match places T fs.toList with
      | some pl => match Instr.fill (fun i => pl[i]?) z.cells l with
        | some cs => some (.agg cs)
        | none => none
      | none => none
    | some (_, .array _ e), some z, some l => match T e with
      | some (ti, _) => match Instr.fill (fun i => some (i * ti.size, ti.size)) z.cells l with
        | some cs => some (.agg cs)
        | none => none
      | none => none
    | _, _, _ => none
  | .call ⟨.builtin .len, as, ts⟩ => match ts.toList, evs ev as.toList with
    | t :: _, some (x :: _) => lenv T h t x
    | _, _ => none
  | .call ⟨.builtin .max, as, _⟩ => match evs ev as.toList with
    | some l => cond2 (l.all scal) (scalO (puree (Builtin.max_ #[] 0 l.toArray)))
    | none => none
  | .call ⟨.builtin .min, as, _⟩ => match evs ev as.toList with
    | some l => cond2 (l.all scal) (scalO (puree (Builtin.min_ #[] 0 l.toArray)))
    | none => none
  | _ => none

/-- what an operation comes to that does more than read -/
inductive Out (X : Type) where
  | val (v : Value) (h : (Hp X))
  | call (f : FuncId) (args : List Value)
  | defer (f : FuncId) (args cap : List Value)
  | panic (t : TypeId) (v : Value)

noncomputable def roomy (h : (Hp X)) : Bool := Nat.blt h.nx 1000000
noncomputable def new (h : (Hp X)) (c : List Value) (t : TypeId) (ex : Bool) (v : Value) : Option (Out X) :=
  bif roomy h then some (.val v (h.add (.cells c t ex))) else none
noncomputable def ptr (k : Nat) : Value := .pointer (some ⟨k, 0, none⟩)

noncomputable def rep (z : List Value) : Nat → List Value
  | 0 => []
  | n + 1 => z ++ rep z n
noncomputable def srcCells (h : (Hp X)) (size : Nat) : Value → Option (Nat × List Value)
  | .slice none n _ => bif Nat.beq n 0 then some (0, []) else none
  | .slice (some b) n _ => match rd h b.block b.off (n * size) with
    | some l => some (n, l)
    | none => none
  | .string s => some (s.size, s.data.toList.map fun b => .int .u8 b.toNat)
  | .complex .f32 0 _ => some (0, [])
  | _ => none
/-- what is appended: of a slice, a string; or so many zeros -/
noncomputable def srcA (h : (Hp X)) (z : Value) (size : Nat) (dx : TypeDesc) (x : Value) : Option (Nat × List Value) := match isInt dx with
  | true => match x with
    | .int _ n => bif decide (0 ≤ n) && decide (n < 1000000) then some (n.toNat, rep z.cells.toList n.toNat) else none
    | _ => none
  | false => srcCells h size x
noncomputable def apnd (T : Tb) (h : (Hp X)) (ts : List TypeId) (s x : Value) : Option (Out X) :=
  match ts with
  | [t, tx] => match T t, T tx with
    | some (_, .slice e), some (_, dx) => match T e, zerov T e with
      | some (ti, _), some z => match srcA h z ti.size dx x, s with
        | some (n, news), .slice base l c =>
          bif !(news.all one) || !(Nat.blt 0 ti.size) || !(Nat.beq z.cells.size ti.size) || !(Nat.blt (l + n) 1000000) || !(Nat.blt ti.bytes 1000000) || !(isLen news (n * ti.size)) then none else
          match base with
          | none => bif !(Nat.beq l 0 && Nat.beq c 0) then none else bif Nat.beq n 0 then some (.val s h) else new h news e false (.slice (some ⟨h.nx, 0, none⟩) n n)
          | some a =>
            bif Nat.ble (l + n) c then
              (match wr h a.block (a.off + l * ti.size) news with
               | some h' => some (.val (.slice (some a) (l + n) c) h')
               | none => none)
            else match h.at a.block with
              | some (.cells cs _ true) => match rd h a.block a.off (l * ti.size) with
                | some old => new h (appR old news) e false (.slice (some ⟨h.nx, 0, none⟩) (l + n) (l + n))
                | none => none
              | some (.cells cs u false) =>
                bif Nat.blt a.block 1000000 && Nat.beq a.off 0 && Nat.beq l c && isLen cs (c * ti.size) && Nat.beq u e then
                  new (h.set a.block none) (appR cs news) e false (.slice (some ⟨h.nx, 0, none⟩) (l + n) (l + n))
                else none
              | _ => none
        | _, _ => none
      | _, _ => none
    | _, _ => none
  | _ => none
theorem apnd_eq (T : Tb) (h : (Hp X)) (ts : List TypeId) (s x : Value) : apnd T h ts s x =
    match ts with
    | [t, tx] => match T t, T tx with
      | some (_, .slice e), some (_, dx) => match T e, zerov T e with
        | some (ti, _), some z => match srcA h z ti.size dx x, s with
          | some (n, news), .slice base l c =>
            bif !(news.all one) || !(Nat.blt 0 ti.size) || !(Nat.beq z.cells.size ti.size) || !(Nat.blt (l + n) 1000000) || !(Nat.blt ti.bytes 1000000) || !(Nat.beq news.length (n * ti.size)) then none else
            match base with
            | none => bif !(Nat.beq l 0 && Nat.beq c 0) then none else bif Nat.beq n 0 then some (.val s h) else new h news e false (.slice (some ⟨h.nx, 0, none⟩) n n)
            | some a =>
              bif Nat.ble (l + n) c then
                (match wr h a.block (a.off + l * ti.size) news with
                 | some h' => some (.val (.slice (some a) (l + n) c) h')
                 | none => none)
              else match h.at a.block with
                | some (.cells cs _ true) => match rd h a.block a.off (l * ti.size) with
                  | some old => new h (old ++ news) e false (.slice (some ⟨h.nx, 0, none⟩) (l + n) (l + n))
                  | none => none
                | some (.cells cs u false) =>
                  bif Nat.blt a.block 1000000 && Nat.beq a.off 0 && Nat.beq l c && Nat.beq cs.length (c * ti.size) && Nat.beq u e then
                    new (h.set a.block none) (cs ++ news) e false (.slice (some ⟨h.nx, 0, none⟩) (l + n) (l + n))
                  else none
                | _ => none
          | _, _ => none
        | _, _ => none
      | _, _ => none
    | _ => none := by
  unfold apnd
  simp only [appR_eq, isLen_eq]
/-- cells as rows -/
noncomputable def chunk (ag : Bool) (sz : Nat) : Nat → List Value → List Value
  | 0, _ => []
  | n + 1, cs => (bif ag then .agg ⟨takeR cs sz⟩ else cs.headD undef) :: chunk ag sz n (dropR cs sz)
/-- what may stand in a list that is a value -/
noncomputable def dat : Value → Bool
  | .func (.yield _) _ _ => true
  | v => scal v
/-- the rows of a slice, or of a string -/
noncomputable def rowsOf (h : (Hp X)) (ag : Bool) (sz : Nat) : Value → Option (List Value)
  | .func (.yield sz') _ rows => bif Nat.beq sz sz' then some rows.toList else none
  | .slice none n _ => bif Nat.beq n 0 then some [] else none
  | .slice (some a) n _ => match rd h a.block a.off (n * sz) with
    | some l => bif l.all dat then some (chunk ag sz n l) else none
    | none => none
  | .string s => bif Nat.beq sz 1 && !ag then some (s.data.toList.map fun b => .int .u8 b.toNat) else none
  | _ => none
/-- a slice that may grow: its rows, and memory without it -/
noncomputable def ownOf (h : (Hp X)) (ag : Bool) (sz : Nat) (e : TypeId) : Value → Option (List Value × (Hp X))
  | .func (.yield sz') ⟨[.int _ (.ofNat k)]⟩ rows => match h.at k with
    | some (.tok sz2 e') => bif Nat.beq sz sz' && Nat.beq sz sz2 && Nat.beq e e' && Nat.blt k 1000000 then some (rows.toList, h.set k none) else none
    | _ => none
  | .slice none n c => bif Nat.beq n 0 && Nat.beq c 0 then some ([], h) else none
  | .slice (some a) l c => match h.at a.block with
    | some (.cells cs t _) => bif Nat.blt a.block 1000000 && Nat.beq a.off 0 && Nat.beq l c && isLen cs (c * sz) && Nat.beq t e && cs.all dat then some (chunk ag sz l cs, h.set a.block none) else none
    | _ => none
  | _ => none
noncomputable def apndT (T : Tb) (h : (Hp X)) (ts : List TypeId) (s x : Value) : Option (Out X) :=
  match ts with
  | [t, tx] => match T t, T tx with
    | some (_, .slice e), some (_, dx) => match T e, zerov T e with
      | some (ti, d), some z => match isInt dx, rowsOf h (isAg d) ti.size x, ownOf h (isAg d) ti.size e s with
        | false, some news, some (rows, h') => bif Nat.blt 0 ti.size && Nat.beq z.cells.size ti.size && (isAg d || Nat.beq ti.size 1) && Nat.blt 0 ti.bytes && roomy h && Nat.ble ((rows ++ news).length * ti.bytes) 140737488355328 then some (.val (lstT ti.size h.nx (rows ++ news)) (h'.add (.tok ti.size e))) else none
        | _, _, _ => none
      | _, _ => none
    | _, _ => none
  | _ => none
noncomputable def isLst : Value → Bool
  | .func (.yield _) _ _ => true
  | _ => false
noncomputable def lenS : Value → Nat
  | .slice _ k _ => k
  | .string s => s.size
  | _ => 0
noncomputable def srcN (h : (Hp X)) (size q : Nat) : Value → Option (List Value)
  | .slice none _ _ => some []
  | .slice (some b) _ _ => rd h b.block b.off (q * size)
  | .string s => some ((s.extract 0 q).data.toList.map fun (b : UInt8) => .int .u8 b.toNat)
  | .complex .f32 0 _ => bif Nat.beq q 0 then some [] else none
  | _ => none
noncomputable def copyv (T : Tb) (h : (Hp X)) (ts : List TypeId) (d x : Value) : Option (Out X) :=
  match ts with
  | t :: _ => match T t with
    | some (_, .slice e) => match T e, d with
      | some (ti, _), .slice base n _ => match srcN h ti.size (Nat.min (lenS x) n) x, base with
        | some l, none => some (.val (.int .i64 (Nat.min (lenS x) n)) h)
        | some l, some a => match wr h a.block a.off l with
          | some h' => some (.val (.int .i64 (Nat.min (lenS x) n)) h')
          | none => none
        | _, _ => none
      | _, _ => none
    | _ => none
  | _ => none
noncomputable def setEnt (k v : Value) : Nat → List MapEntry → List MapEntry
  | _, [] => []
  | 0, e :: l => { e with key := k, val := v } :: l
  | n + 1, e :: l => e :: setEnt k v n l
noncomputable def mapPut (T : Tb) (h : (Hp X)) (t : TypeId) (m k v : Value) : Option (Out X) :=
  match T t, m with
  | some (_, .map kt _), .map (some r) => match T kt, h.at r with
    | some (_, kd), some (.map es ck) => bif Nat.blt r 1000000 then
        match fnd T kt kd k es with
        | some (some (i, _)) => some (.val (.tuple #[]) (h.set r (some (.map (setEnt k v i es) ck))))
        | some none => some (.val (.tuple #[]) (h.set r (some (.map (es ++ [⟨k, v, ck⟩]) (ck + 1)))))
        | none => none
      else none
    | _, _ => none
  | _, _ => none
noncomputable def mapDel (T : Tb) (h : (Hp X)) (t : TypeId) (m k : Value) : Option (Out X) :=
  match T t, m with
  | some (_, .map kt _), .map (some r) => match T kt, h.at r with
    | some (_, kd), some (.map es ck) => bif Nat.blt r 1000000 then
        match fnd T kt kd k es with
        | some (some (i, _)) => some (.val (.tuple #[]) (h.set r (some (.map (es.eraseIdx i) ck))))
        | some none => some (.val (.tuple #[]) h)
        | none => none
      else none
    | _, _ => none
  | _, _ => none

noncomputable def mapClr (T : Tb) (h : (Hp X)) (t : TypeId) (m : Value) : Option (Out X) :=
  match T t, m with
  | some (_, .map _ _), .map (some r) => match h.at r with
    | some (.map _ ck) => bif Nat.blt r 1000000 then some (.val (.tuple #[]) (h.set r (some (.map [] ck)))) else none
    | _ => none
  | some (_, .map _ _), .map none => some (.val (.tuple #[]) h)
  | _, _ => none

/-- the entries that may come next, of a map that is gone over -/
noncomputable def nextAll (h : (Hp X)) (r : Nat) : Option (List (Value × (Hp X))) := match h.at r with
  | some (.mit none _ _ _) => some [(.tuple #[.bool false], h)]
  | some (.mit (some m) since seen last) => match h.at m with
    | some (.map es ck) => bif Nat.blt r 1000000 && (seen.isEmpty || es.isEmpty || !(es.all fun e => Nat.ble last e.born)) && es.all (fun e => Nat.blt e.born since) then
        match es.filter (fun e => !seen.contains e.born) with
        | [] => some [(.tuple #[.bool false], h.set r none)]
        | l => some (l.map fun e => (.tuple #[.bool true, e.key, e.val], h.set r (some (.mit (some m) since (seen ++ [e.born]) ck))))
      else none
    | _ => none
  | _ => none
noncomputable def nextOf (s : (Hp X)) (ev : Evl) : Op → Option (List (Value × (Hp X)))
  | .next x false => match ev x with
    | some (.pointer (some ⟨r, 0, _⟩)) => nextAll s r
    | _ => none
  | _ => none
noncomputable def each {α β : Type} (f : α → Option (List β)) : List α → Option (List β)
  | [] => some []
  | x :: l => match f x with
    | some a => match each f l with
      | some b => some (a ++ b)
      | none => none
    | none => none

noncomputable def opx (T : Tb) (h : (Hp X)) (ev : Evl) (op : Op) : Option (Out X) :=
  match op with
  | .alloc t => match zerov T t with
    | some z => new h z.cells.toList t true (ptr h.nx)
    | none => none
  | .box t x => match ev x with
    | some v => new h v.cells.toList t true (ptr h.nx)
    | none => none
  | .buildSlice t n ps => match T t, evps ev ps.toList with
    | some (_, .slice e), some l => match T e, zerov T e with
      | some (ti, _), some z => bif Nat.beq z.cells.size ti.size && Nat.blt 0 ti.size && Nat.blt (n * ti.size) 1000000 then
          match Instr.fill (fun i => some (i * ti.size, ti.size)) (rep z.cells.toList n).toArray l with
          | some cs => new h cs.toList e true (.slice (some ⟨h.nx, 0, none⟩) n n)
          | none => none
        else none
      | _, _ => none
    | _, _ => none
  | .makeMap t r => match T t, (match r with | none => some (Value.int .i64 0) | some x => ev x) with
    | some (_, .map _ _), some (.int _ _) => bif roomy h then some (.val (.map (some h.nx)) (h.add (.map [] 0))) else none
    | _, _ => none
  | .makeSlice t x y => match T t, ev x, ev y with
    | some (_, .slice e), some (.int _ n), some (.int _ c) => match T e, zerov T e with
      | some (ti, _), some z => bif decide (0 ≤ n) && decide (n ≤ c) && decide (c < 1000000) && Nat.blt ti.bytes 1000000 && Nat.beq z.cells.size ti.size && Nat.blt 0 ti.size then
          new h (rep z.cells.toList c.toNat) e true (.slice (some ⟨h.nx, 0, none⟩) n.toNat c.toNat)
        else none
      | _, _ => none
    | _, _, _ => none
  | .store t x y => match T t, ev x, ev y with
    | some (ti, _), some (.pointer (some a)), some v => bif Nat.beq v.cells.size ti.size then
        match wr h a.block a.off v.cells.toList with
        | some h' => some (.val (.tuple #[]) h')
        | none => none
      else none
    | _, _, _ => none
  | .mapUpdate t m k v => match ev m, ev k, ev v with
    | some m, some k, some v => mapPut T h t m k v
    | _, _, _ => none
  | .insert t m k v => match ev m, ev k, ev v with
    | some m, some k, some v => mapPut T h t m k v
    | _, _, _ => none
  | .convert s d x => match T s, T d, ev x with
    | some (_, .slice e), some (_, .slice e'), some (.slice (some a) n c) => match T e', h.at a.block with
      | some (_, .int .u8), some (.cells cs t true) => bif Nat.beq s d && Nat.blt a.block 1000000 then some (.val (.slice (some a) n c) (h.set a.block (some (.cells cs t false)))) else none
      | _, _ => none
    | some (_, .string), some (_, .slice e), some (.string b) => match T e with
      | some (ti, .int .u8) => bif Nat.beq ti.size 1 then new h (b.data.toList.map fun b => .int .u8 b.toNat) e false (.slice (some ⟨h.nx, 0, none⟩) b.size b.size) else none
      | _ => none
    | _, _, _ => none
  | .call ⟨.builtin .append, as, ts⟩ => match evs ev as.toList with
    | some [s, x] => bif isLst s || isLst x then apndT T h ts.toList s x else apnd T h ts.toList s x
    | _ => none
  | .call ⟨.builtin .copy, as, ts⟩ => match evs ev as.toList with
    | some [s, x] => copyv T h ts.toList s x
    | _ => none
  | .call ⟨.builtin .delete, as, ts⟩ => match ts.toList, evs ev as.toList with
    | t :: _, some [m, k] => mapDel T h t m k
    | _, _ => none
  | .call ⟨.builtin .clear, as, ts⟩ => match ts.toList, evs ev as.toList with
    | t :: _, some [m] => mapClr T h t m
    | _, _ => none
  | .call ⟨.value f, as, _⟩ => match ev f, evs ev as.toList with
    | some (.func (.func g) a b), some l => some (.call g (a.toList ++ l ++ b.toList))
    | _, _ => none
  | .defer ⟨.value f, as, _⟩ => match ev f, evs ev as.toList with
    | some (.func (.func g) a b), some l => some (.defer g (a.toList ++ l) b.toList)
    | _, _ => none
  | .panic x => match ev x with
    | some (.iface t v) => some (.panic t v)
    | _ => none
  | .range t x => match T t, ev x with
    | some (_, .map _ _), some (.map none) => bif roomy h then some (.val (ptr h.nx) (h.add (.mit none 0 [] 0))) else none
    | some (_, .map _ _), some (.map (some m)) => match h.at m with
      | some (.map _ ck) => bif roomy h then some (.val (ptr h.nx) (h.add (.mit (some m) ck [] ck))) else none
      | _ => none
    | _, _ => none
  | _ => none

/-! code -/
inductive Ex where
  | normal
  | exit (id : Nat)
  | ret
  | panic (ch : List (TypeId × Value × Bool))

structure Df where
  f : FuncId
  args : List Value
  cap : List Value

structure St (X : Type) where
  n : Nat
  env : Tr Value
  ds : List Df
  hp : (Hp X)

noncomputable def putE (n : Nat) (env : Tr Value) (ds : List Df) (d : Option Tmp) (v : Value) (h : (Hp X)) : Option (St X) := match d with
  | none => some ⟨n, env, ds, h⟩
  | some d => bif Nat.blt d n && Nat.blt d 1000000 then some ⟨n, env.put (some v) 20 d, ds, h⟩ else none
noncomputable def St.put (s : (St X)) (d : Option Tmp) (v : Value) (h : (Hp X)) : Option (St X) := match s with
  | ⟨n, env, ds, _⟩ => putE n env ds d v h
theorem St.put_eq (s : (St X)) (d : Option Tmp) (v : Value) (h : (Hp X)) : s.put d v h = match d with
  | none => some ⟨s.n, s.env, s.ds, h⟩
  | some d => bif Nat.blt d s.n && Nat.blt d 1000000 then some ⟨s.n, s.env.put (some v) 20 d, s.ds, h⟩ else none := by
  cases s; cases d <;> rfl

/-- how a call ends -/
inductive En (X : Type) where
  | ret (v : Value) (h : (Hp X))
  | panic (ch : List (TypeId × Value × Bool)) (h : (Hp X))

abbrev Run (X : Type) := Code → (St X) → Option (List (Ex × (St X)))
abbrev Cal (X : Type) := FuncId → List Value → (Hp X) → Option (En X)

noncomputable def dstOf (ops : List Oper) (j : Nat) : Option Tmp := match ops[j]? with
  | some o => o.dst
  | none => none
/-- is the operation wanted? -/
noncomputable def wantd (ops : List Oper) (env : Tr Value) (o : Oper) : Option Bool := match o.guard with
  | none => some true
  | some (j, want) => match dstOf ops j with
    | some t => match env.get t with
      | some (.bool b) => some (b == want)
      | some (.tuple _) => some false
      | _ => none
    | none => none

/-- whole numbers of one kind that are not below 0 -/
noncomputable def fastI (k k' : IntKind) (op : BinOp) (a b : Nat) : Option Value := bif Nat.beq k.ctorIdx k'.ctorIdx then (match op with
  | .lss => some (.bool (Nat.blt a b))
  | .leq => some (.bool (Nat.ble a b))
  | .gtr => some (.bool (Nat.blt b a))
  | .geq => some (.bool (Nat.ble b a))
  | .eql => some (.bool (Nat.beq a b))
  | .neq => some (.bool (not (Nat.beq a b)))
  | .add => bif Nat.beq k.ctorIdx 3 && Nat.blt (Nat.add a b) 9223372036854775808 then some (.int .i64 (.ofNat (Nat.add a b))) else none
  | .sub => bif Nat.beq k.ctorIdx 3 && (Nat.ble b a && Nat.blt (Nat.sub a b) 9223372036854775808) then some (.int .i64 (.ofNat (Nat.sub a b))) else none
  | _ => none) else none
noncomputable def opvBin (ev : Evl) (op : BinOp) (x y : Operand) : Option Value := match ev x, ev y with
  | some (.int k (.ofNat a)), some (.int k' (.ofNat b)) => fastI k k' op a b
  | _, _ => none
noncomputable def opvPick (ev : Evl) (c a b : Operand) : Option Value := match ev c with
  | some (.bool true) => ev a
  | some (.bool false) => ev b
  | _ => none
noncomputable def opvLoad (T : Tb) (h : (Hp X)) (ev : Evl) (t : TypeId) (x : Operand) : Option Value := match ev x with
  | some (.pointer (some a)) => ldv T h t a
  | some (.func (.methodOf _ _) _ cs) => ldE T t cs.toList
  | _ => none
noncomputable def opvFld (T : Tb) (ev : Evl) (s : TypeId) (x : Operand) (f : Nat) : Option Value := match T s, ev x with
  | some (_, .struct fs), some (.pointer (some a)) => match fs[f]? with
    | some fd => match T fd.type with
      | some (ti, _) => bif Nat.beq ti.size 0 then none else some (.pointer (some (a.add fd.offset)))
      | none => none
    | none => none
  | some (_, .struct fs), some (.func (.methodOf _ _) _ cs) => match fs[f]? with
    | some fd => match T fd.type with
      | some (ti, _) => bif Nat.beq ti.size 0 then none else some (elp (dropR cs.toList fd.offset))
      | none => none
    | none => none
  | _, _ => none
noncomputable def opvIdx (T : Tb) (ev : Evl) (t : TypeId) (x i : Operand) : Option Value := match T t, ev x, ev i with
  | some (_, .slice e), some (.slice (some a) n _), some (.int _ j) => match T e with
    | some (ti, _) => bif decide (0 ≤ j) && Nat.blt j.toNat n then some (.pointer (some (a.add (j.toNat * ti.size)))) else none
    | none => none
  | some (_, .array n e), some (.pointer (some a)), some (.int _ j) => match T e with
    | some (ti, _) => bif decide (0 ≤ j) && Nat.blt j.toNat n then some (.pointer (some (a.add (j.toNat * ti.size)))) else none
    | none => none
  | some (_, .slice e), some (.complex .f32 (k + 1) y), some (.int _ j) => match T e with
    | some (ti, _) => bif decide (0 ≤ j) && Nat.blt j.toNat (y % 4294967296) then some (.pointer (some ⟨k, y / 4294967296 + j.toNat * ti.size, none⟩)) else none
    | none => none
  | some (_, .slice e), some (.func (.yield sz) _ rows), some (.int _ j) => match T e, T.kd e with
    | some (ti, _), some ks => bif Nat.beq ti.size sz && Nat.blt 0 sz && Nat.beq ks.length sz && decide (0 ≤ j) && Nat.blt j.toNat rows.toList.length && rowIs ks (rowC rows.toList j.toNat) then some (elp (rowP ks (rowC rows.toList j.toNat))) else none
    | _, _ => none
  | _, _, _ => none
noncomputable def opvExt (ev : Evl) (x : Operand) (i : Nat) : Option Value := match ev x with
  | some (.tuple vs) => vs[i]?
  | _ => none
/-- the operations that come most often, at once -/
noncomputable def fop (T : Tb) (h : (Hp X)) (ev : Evl) (op : Op) : Option Value := match op with
  | .move x => ev x
  | .assign x => ev x
  | .binOp op _ x y _ => opvBin ev op x y
  | .pick c a b => opvPick ev c a b
  | .load t x => opvLoad T h ev t x
  | .fieldAddr s x f => opvFld T ev s x f
  | .indexAddr t x i => opvIdx T ev t x i
  | .extract x i => opvExt ev x i
  | _ => none
theorem kind_eq {k k' : IntKind} (h : Nat.beq k.ctorIdx k'.ctorIdx = true) : k = k' := by
  cases k <;> cases k' <;> first | rfl | (simp [IntKind.ctorIdx] at h)
theorem kind_i64 {k : IntKind} (h : Nat.beq k.ctorIdx 3 = true) : k = .i64 := by
  cases k <;> first | rfl | (simp [IntKind.ctorIdx] at h)
theorem wrap64 {c : Nat} (h : c < 9223372036854775808) : IntKind.i64.wrap (Int.ofNat c) = Int.ofNat c := by
  simp [IntKind.wrap, IntKind.bits, IntKind.signed]
  omega
theorem fastI_ok {k k' : IntKind} {op : BinOp} {a b : Nat} {v : Value} (e : fastI k k' op a b = some v) (t : TypeId) : scal v = true ∧ puree (binOp op t (.int k (.ofNat a)) (.int k' (.ofNat b))) = some v := by
  unfold fastI at e
  cases hk : Nat.beq k.ctorIdx k'.ctorIdx with
  | false => rw [hk] at e; cases e
  | true =>
    rw [hk, cond_true] at e
    obtain rfl := kind_eq hk
    have hb : ∀ (c : Bool), scal (.bool c) = true := fun _ => rfl
    cases op <;> simp only at e <;> first | (cases e; done) | skip
    case add =>
      cases hc : (Nat.beq k.ctorIdx 3 && Nat.blt (Nat.add a b) 9223372036854775808) with
      | false => rw [hc] at e; cases e
      | true =>
        rw [hc] at e
        simp only [Bool.and_eq_true] at hc
        obtain rfl := kind_i64 hc.1
        cases e
        refine ⟨rfl, ?_⟩
        have := wrap64 (Nat.blt_eq.mp hc.2)
        simp only [binOp, Op.intArith, puree]
        exact congrArg some (congrArg (Value.int .i64) this)
    case sub =>
      cases hc : (Nat.beq k.ctorIdx 3 && (Nat.ble b a && Nat.blt (Nat.sub a b) 9223372036854775808)) with
      | false => rw [hc] at e; cases e
      | true =>
        rw [hc] at e
        simp only [Bool.and_eq_true] at hc
        obtain rfl := kind_i64 hc.1
        cases e
        refine ⟨rfl, ?_⟩
        have h1 := Nat.le_of_ble_eq_true hc.2.1
        have := wrap64 (Nat.blt_eq.mp hc.2.2)
        have h2 : (Int.ofNat a - Int.ofNat b : Int) = Int.ofNat (Nat.sub a b) := by
          show (a : Int) - (b : Int) = ((a - b : Nat) : Int)
          omega
        simp only [binOp, Op.intArith, puree]
        refine congrArg some (congrArg (Value.int .i64) ?_)
        rw [h2]
        exact this
    all_goals
      cases e
      refine ⟨rfl, ?_⟩
      simp only [binOp, Op.intCmp, ne_eq, not_true_eq_false, if_false]
      refine congrArg some (congrArg Value.bool ?_)
      rw [Bool.eq_iff_iff]
      simp
      try (have hz : (a.beq b = false) ↔ ¬ a = b := by rw [← Bool.not_eq_true, Nat.beq_eq])
      try rw [hz]
      try omega
theorem fop_opv {T : Tb} {h : (Hp X)} {ev : Evl} {op : Op} {v : Value} (e : fop T h ev op = some v) : opv T h ev op = some v ∧ nextOf h ev op = none := by
  cases op <;> first | (cases e; done) | exact ⟨e, rfl⟩ | skip
  case binOp op t x y t2 =>
    refine ⟨?_, rfl⟩
    have e' : opvBin ev op x y = some v := e
    unfold opvBin at e'
    split at e'
    · rename_i k a k' b hx hy
      obtain ⟨h1, h2⟩ := fastI_ok e' t
      show (match ev x, ev y with
        | some a, some b => bin T h op t x y a b
        | _, _ => none) = some v
      rw [hx, hy]
      show scalO (puree (binOp op t (.int k (.ofNat a)) (.int k' (.ofNat b)))) = some v
      rw [h2]
      show (bif scal v then some v else none) = some v
      rw [h1]
      rfl
    · cases e'
/-- (slots and memory apart, so that nothing is held of the state before) -/
noncomputable def stepOp0 (T : Tb) (cal : (Cal X)) (o : Oper) (n : Nat) (env : Tr Value) (ds : List Df) (hp : (Hp X)) : Option (Ex × (St X)) :=
  match opv T hp (evO env) o.op with
  | some v => match putE n env ds o.dst v hp with
    | some s' => some (.normal, s')
    | none => none
  | none => match opx T hp (evO env) o.op with
    | some (.val v h) => match putE n env ds o.dst v h with
      | some s' => some (.normal, s')
      | none => none
    | some (.call f args) => match cal f args hp with
      | some (.ret v h) => match putE n env ds o.dst v h with
        | some s' => some (.normal, s')
        | none => none
      | some (.panic ch h) => some (.panic ch, ⟨n, env, ds, h⟩)
      | none => none
    | some (.defer f args cap) => match putE n env ds o.dst (.tuple #[]) hp with
      | some s' => some (.normal, ⟨s'.n, s'.env, ⟨f, args, cap⟩ :: s'.ds, s'.hp⟩)
      | none => none
    | some (.panic t v) => some (.panic [(t, v, false)], ⟨n, env, ds, hp⟩)
    | none => none
noncomputable def stepOp (T : Tb) (cal : (Cal X)) (o : Oper) (s : (St X)) : Option (Ex × (St X)) := match s with
  | ⟨n, env, ds, hp⟩ => stepOp0 T cal o n env ds hp
theorem stepOp_eq (T : Tb) (cal : (Cal X)) (o : Oper) (s : (St X)) : stepOp T cal o s =
    match opv T s.hp (evO s.env) o.op with
    | some v => match s.put o.dst v s.hp with
      | some s' => some (.normal, s')
      | none => none
    | none => match opx T s.hp (evO s.env) o.op with
      | some (.val v h) => match s.put o.dst v h with
        | some s' => some (.normal, s')
        | none => none
      | some (.call f args) => match cal f args s.hp with
        | some (.ret v h) => match s.put o.dst v h with
          | some s' => some (.normal, s')
          | none => none
        | some (.panic ch h) => some (.panic ch, ⟨s.n, s.env, s.ds, h⟩)
        | none => none
      | some (.defer f args cap) => match s.put o.dst (.tuple #[]) s.hp with
        | some s' => some (.normal, ⟨s'.n, s'.env, ⟨f, args, cap⟩ :: s'.ds, s'.hp⟩)
        | none => none
      | some (.panic t v) => some (.panic [(t, v, false)], s)
      | none => none := by
  cases s; rfl

/-- an operation that comes often and has no guard, at once -/
noncomputable def quick (T : Tb) (n : Nat) (env : Tr Value) (ds : List Df) (hp : (Hp X)) (o : Oper) : Option (Option (St X)) := match o.guard with
  | some _ => none
  | none => match fop T hp (evO env) o.op with
    | some v => some (putE n env ds o.dst v hp)
    | none => none
noncomputable def seqOps (T : Tb) (cal : (Cal X)) (ops : List Oper) : List Oper → (St X) → Option (List (Ex × (St X)))
  | [], s => some [(.normal, s)]
  | o :: rest, ⟨n, env, ds, hp⟩ => match quick T n env ds hp o with
    | some (some s') => seqOps T cal ops rest s'
    | some none => none
    | none => match wantd ops env o with
        | some true => match nextOf hp (evO env) o.op with
          | some outs => each (fun p => match putE n env ds o.dst p.1 p.2 with
            | some s' => seqOps T cal ops rest s'
            | none => none) outs
          | none => match stepOp0 T cal o n env ds hp with
            | some (.normal, s') => seqOps T cal ops rest s'
            | some r => some [r]
            | none => none
        | some false => match putE n env ds o.dst (.tuple #[]) hp with
          | some s' => seqOps T cal ops rest s'
          | none => none
        | none => none
theorem seqOps_eq (T : Tb) (cal : (Cal X)) (ops : List Oper) (o : Oper) (rest : List Oper) (s : (St X)) : seqOps T cal ops (o :: rest) s = match wantd ops s.env o with
    | some true => match nextOf s.hp (evO s.env) o.op with
      | some outs => each (fun p => match s.put o.dst p.1 p.2 with
        | some s' => seqOps T cal ops rest s'
        | none => none) outs
      | none => match stepOp T cal o s with
        | some (.normal, s') => seqOps T cal ops rest s'
        | some r => some [r]
        | none => none
    | some false => match s.put o.dst (.tuple #[]) s.hp with
      | some s' => seqOps T cal ops rest s'
      | none => none
    | none => none := by
  obtain ⟨n, env, ds, hp⟩ := s
  show (match quick T n env ds hp o with
    | some (some s') => seqOps T cal ops rest s'
    | some none => none
    | none => _) = _
  cases hq : quick T n env ds hp o with
  | none => rfl
  | some r =>
    have hw : wantd ops env o = some true := by
      unfold quick at hq
      unfold wantd
      split at hq
      · cases hq
      · rename_i hg
        rw [hg]
    have hv : ∃ v, opv T hp (evO env) o.op = some v ∧ nextOf hp (evO env) o.op = none ∧ r = putE n env ds o.dst v hp := by
      unfold quick at hq
      split at hq
      · cases hq
      · split at hq
        · rename_i v hf
          cases hq
          exact ⟨v, (fop_opv hf).1, (fop_opv hf).2, rfl⟩
        · cases hq
    obtain ⟨v, h1, h2, rfl⟩ := hv
    have h3 : stepOp T cal o ⟨n, env, ds, hp⟩ = match putE n env ds o.dst v hp with
        | some s' => some (.normal, s')
        | none => none := by
      show stepOp0 T cal o n env ds hp = _
      unfold stepOp0
      rw [h1]
    simp only [hw, h2, h3]
    cases putE n env ds o.dst v hp <;> rfl

/-! regions whose order is open -/
noncomputable def looks (ops : List Oper) (o : Oper) : List Tmp :=
  (o.op.operands.toList.filterMap fun | .tmp t => some t | _ => none) ++
  (match o.guard with
   | some (g, _) => (dstOf ops g).toList
   | none => [])
noncomputable def binds (e : Edge) : Bool := Region.binds .any e
/-- who must have come ahead of each operation, as bits, the last one first -/
noncomputable def masks : List Oper → List Nat → List Nat
  | [], acc => acc
  | o :: l, acc => masks l ((o.after.toList.foldl (fun s e => bif binds e then s ||| 2 ^ e.on ||| acc.reverse.getD e.on 0 else s) 0) :: acc)
noncomputable def apart2 (ops : List Oper) (x y : Oper) : Bool :=
  (match x.dst with
   | some d => !(looks ops y).contains d
   | none => true) &&
  (match y.dst with
   | some d => !(looks ops x).contains d
   | none => true)
noncomputable def dstNe (x y : Oper) : Bool := match x.dst, y.dst with
  | some a, some b => !(Nat.beq a b)
  | _, _ => true
noncomputable def isSel : Op → Bool
  | .select .. => true
  | _ => false
noncomputable def edgesOk (i : Nat) (o : Oper) : Bool := o.after.toList.all fun e => !binds e || Nat.blt e.on i
noncomputable def guardOk (m : Nat) (o : Oper) : Bool := match o.guard with
  | none => true
  | some (j, _) => m.testBit j
/-- any two are in order, or don't touch one another -/
noncomputable def pairsOk (ops : List Oper) (ms : List Nat) : Bool :=
  ops.zipIdx.all fun (y, j) => !(isSel y.op) && edgesOk j y && guardOk (ms.getD j 0) y && (ops.zipIdx.all fun (x, i) => !(Nat.blt i j) || (dstNe x y && ((ms.getD j 0).testBit i || apart2 ops x y)))

/-- what an operation came to: a value, of memory or not; a new object; an effect, with the memory behind it -/
inductive Rc (X : Type) where
  | val (v : Value) (rd : Bool)
  | new (v : Value) (o : (Ob X))
  | eff (v : Value) (h : (Hp X))
noncomputable def Rc.v : (Rc X) → Value
  | .val v _ => v
  | .new v _ => v
  | .eff v _ => v

noncomputable def emp (nx : Nat) : (Hp X) := ⟨.nil, nx⟩
noncomputable def sameV : Value → Value → Bool
  | .bool a, .bool b => a == b
  | .int k a, .int k' b => decide (k = k') && decide (a = b)
  | .string a, .string b => decide (a.data.toList = b.data.toList)
  | .pointer none, .pointer none => true
  | .pointer (some a), .pointer (some b) => Nat.beq a.block b.block && Nat.beq a.off b.off && a.spot.isNone && b.spot.isNone
  | .slice none l c, .slice none l' c' => Nat.beq l l' && Nat.beq c c'
  | .slice (some a) l c, .slice (some b) l' c' => Nat.beq a.block b.block && Nat.beq a.off b.off && a.spot.isNone && b.spot.isNone && Nat.beq l l' && Nat.beq c c'
  | .map none, .map none => true
  | .map (some a), .map (some b) => Nat.beq a b
  | .nilFunc, .nilFunc => true
  | .nilIface, .nilIface => true
  | .complex k a b, .complex k' a' b' => decide (k = k') && Nat.beq a a' && Nat.beq b b'
  | _, _ => false
noncomputable def sameL : List Value → List Value → Bool
  | [], [] => true
  | a :: l, b :: m => sameV a b && sameL l m
  | _, _ => false
noncomputable def same1 : Value → Value → Bool
  | .func (.func f) x y, .func (.func f') x' y' => Nat.beq f f' && sameL x.toList x'.toList && sameL y.toList y'.toList
  | a, b => sameV a b
noncomputable def sameM : List Value → List Value → Bool
  | [], [] => true
  | a :: l, b :: m => same1 a b && sameM l m
  | _, _ => false
noncomputable def same0 : Value → Value → Bool
  | .agg a, .agg b => sameL a.toList b.toList
  | .tuple a, .tuple b => sameM a.toList b.toList
  | a, b => same1 a b
noncomputable def same (a b : Value) : Bool := same0 a b || @decide (a = b) (Classical.propDecidable _)
theorem same_self (a : Value) : same a a = true := by simp [same]

/-- these slots alone -/
noncomputable def evL (ls : List Tmp) (env : Tr Value) : Evl
  | .tmp k => bif ls.contains k then env.get k else none
  | x => evO env x

/-- the slots behind the first operations -/
noncomputable def envR : List Oper → List (Rc X) → Tr Value → Tr Value
  | o :: os, r :: rs, e => envR os rs (match o.dst with
    | some d => e.put (some r.v) 20 d
    | none => e)
  | _, _, e => e
noncomputable def effL : Nat → List (Rc X) → List (Nat × (Hp X))
  | _, [] => []
  | i, .eff _ h :: l => (i, h) :: effL (i + 1) l
  | i, _ :: l => effL (i + 1) l
noncomputable def newL : Nat → List (Rc X) → List (Nat × (Ob X))
  | _, [] => []
  | i, .new _ o :: l => (i, o) :: newL (i + 1) l
  | i, _ :: l => newL (i + 1) l
/-- memory behind the effects -/
noncomputable def curH (h0 : (Hp X)) : List (Nat × (Hp X)) → (Hp X)
  | [] => h0
  | (_, h) :: l => curH h l
/-- has an effect met this new object? -/
noncomputable def mgd (ms : List Nat) (es : List (Nat × (Hp X))) (i : Nat) : Bool := es.any fun e => (ms.getD e.1 0).testBit i
noncomputable def mergeR (ms : List Nat) (m base : Nat) (es : List (Nat × (Hp X))) : List (Nat × (Ob X)) → (Hp X) → (Hp X)
  | [], h => h
  | (i, o) :: l, h => mergeR ms m base es l (bif m.testBit i && !(mgd ms es i) then h.set (base + i) (some o) else h)

noncomputable def reads (T : Tb) (h : (Hp X)) (ls : List Tmp) (env : Tr Value) (op : Op) (v : Value) : Bool := match opv T h (evL ls env) op with
  | some u => same u v
  | none => false
/-- is it read so ahead of each effect that need not come first? -/
noncomputable def readsBack (T : Tb) (ls : List Tmp) (env : Tr Value) (op : Op) (v : Value) (m : Nat) : (Hp X) → List (Nat × (Hp X)) → Bool
  | h0, [] => reads T h0 ls env op v
  | h0, (e, h) :: l => (m.testBit e || reads T h0 ls env op v) && readsBack T ls env op v m h l
/-- and behind this one, where it need not come ahead of it? -/
noncomputable def readsOn (T : Tb) (ops : List Oper) (env0 : Tr Value) (h : (Hp X)) (m : Nat) (R : List (Rc X)) : Nat → List (Rc X) → Bool
  | _, [] => true
  | i, .val v true :: l => (m.testBit i || (match ops[i]? with
      | some o => reads T h (looks ops o) (envR ops (R.take i) env0) o.op v
      | none => false)) && readsOn T ops env0 h m R (i + 1) l
  | i, _ :: l => readsOn T ops env0 h m R (i + 1) l

abbrev Ch := List (TypeId × Value × Bool)
inductive DrR (X : Type) where
  | go (r : (Rc X))
  | panic (ch : Ch) (h : (Hp X))

noncomputable def stepE (T : Tb) (cal : (Cal X)) (ops : List Oper) (env0 : Tr Value) (m : Nat) (R : List (Rc X)) (B : (Hp X)) (o : Oper) (ev : Evl) : Option (DrR X) :=
  match opx T B ev o.op with
  | some (.val v h) => bif readsOn T ops env0 h m R 0 R then some (.go (.eff v h)) else none
  | some (.call f args) => match cal f args B with
    | some (.ret v h) => bif readsOn T ops env0 h m R 0 R then some (.go (.eff v h)) else none
    | some (.panic ch h) => some (.panic ch h)
    | none => none
  | some (.panic t v) => some (.panic [(t, v, false)] B)
  | _ => none
noncomputable def newAt (R : List (Rc X)) (i : Nat) : Option (Ob X) := match R[i]? with
  | some (.new _ o) => some o
  | _ => none
/-- is it converted to its own type later on in the region? -/
noncomputable def toConv (ops : List Oper) : Option Tmp → Bool
  | some d => ops.any fun o => match o.op with
    | .convert s d' (.tmp t) => Nat.beq s d' && Nat.beq t d
    | _ => false
  | none => false
noncomputable def weakO (b : Bool) : (Ob X) → (Ob X)
  | .cells c t x => .cells c t (bif b then false else x)
  | o => o
/-- does all that must come behind i0 come behind i, too? -/
noncomputable def alone (i0 i : Nat) : Nat → List Nat → Bool
  | _, [] => true
  | k, m :: l => (Nat.beq k i || !m.testBit i0 || m.testBit i) && alone i0 i (k + 1) l
/-- bytes that were made in this region, converted to their own type: a mark in the world, none in this memory -/
noncomputable def markV (T : Tb) (base : Nat) (ms : List Nat) (R : List (Rc X)) (i : Nat) (ev : Evl) : Op → Option Value
  | .convert s d x => match T s, T d, ev x with
    | some (_, .slice e), some (_, .slice e'), some (.slice (some a) n c) => match T e', newAt R (a.block - base) with
      | some (_, .int .u8), some (.cells _ _ false) => bif Nat.beq s d && (Nat.ble base a.block && ((ms.getD i 0).testBit (a.block - base) && alone (a.block - base) i 0 ms)) then some (.slice (some a) n c) else none
      | _, _ => none
    | _, _, _ => none
  | _ => none
noncomputable def stepR (T : Tb) (cal : (Cal X)) (base : Nat) (ops : List Oper) (ms : List Nat) (h0 : (Hp X)) (env0 : Tr Value) (R : List (Rc X)) (o : Oper) : Option (DrR X) :=
  let i := R.length
  let m := ms.getD i 0
  let env := envR ops R env0
  let ls := looks ops o
  let es := effL 0 R
  match wantd ops env o with
  | none => none
  | some false => some (.go (.val (.tuple #[]) false))
  | some true =>
    match opv T (emp 0 : Hp X) (evL ls env) o.op with
    | some v => some (.go (.val v false))
    | none => match opv T (curH h0 es) (evL ls env) o.op with
      | some v => bif readsBack T ls env o.op v m h0 es then some (.go (.val v true)) else none
      | none => match markV T base ms R i (evL ls env) o.op with
        | some v => some (.go (.val v false))
        | none => match opx T (emp (base + i) : Hp X) (evL ls env) o.op with
          | some (.val v h) => match h.at (base + i) with
            | some ob => bif Nat.beq h.nx (base + i + 1) then some (.go (.new v (weakO (toConv ops o.dst) ob))) else none
            | none => none
          | _ => bif es.all (fun e => m.testBit e.1) then stepE T cal ops env0 m R (mergeR ms m base es (newL 0 R) (curH h0 es)) o (evL ls env) else none
noncomputable def notEff : (Rc X) → Bool
  | .eff .. => false
  | _ => true
abbrev Pan (X : Type) := Option (Nat × Ch × (Hp X))
noncomputable def goR (T : Tb) (cal : (Cal X)) (base : Nat) (ops : List Oper) (ms : List Nat) (h0 : (Hp X)) (env0 : Tr Value) : List Oper → List (Rc X) → (Pan X) → Option (List (Rc X) × (Pan X))
  | [], R, p => some (R, p)
  | o :: rest, R, none => match stepR T cal base ops ms h0 env0 R o with
    | some (.go r) => goR T cal base ops ms h0 env0 rest (R ++ [r]) none
    | some (.panic ch h) => goR T cal base ops ms h0 env0 rest (R ++ [.val (.tuple #[]) false]) (some (R.length, ch, h))
    | none => none
  | o :: rest, R, some (i, ch, h) => bif (ms.getD R.length 0).testBit i then goR T cal base ops ms h0 env0 rest (R ++ [.val (.tuple #[]) false]) (some (i, ch, h))
    else match stepR T cal base ops ms h0 env0 R o with
    | some (.go r) => bif notEff r then goR T cal base ops ms h0 env0 rest (R ++ [r]) (some (i, ch, h)) else none
    | _ => none

noncomputable def mergeAll (ms : List Nat) (base : Nat) (es : List (Nat × (Hp X))) : List (Nat × (Ob X)) → (Hp X) → (Hp X)
  | [], h => h
  | (i, o) :: l, h => mergeAll ms base es l (bif mgd ms es i then h else h.set (base + i) (some o))
noncomputable def dropD : List Oper → Tr Value → Tr Value
  | [], e => e
  | o :: l, e => dropD l (match o.dst with
    | some d => e.put none 20 d
    | none => e)
noncomputable def dstsOk (n : Nat) (ops : List Oper) : Bool := ops.all fun o => match o.dst with
  | some d => Nat.blt d n && Nat.blt d 1000000
  | none => true

noncomputable def drawn0 (T : Tb) (cal : (Cal X)) (ops : List Oper) (n : Nat) (env : Tr Value) (ds : List Df) (t : Tr (Ob X)) (nx : Nat) : Option (Ex × (St X)) :=
  let ms := (masks ops []).reverse
  bif pairsOk ops ms && dstsOk n ops && Nat.blt (nx + ops.length) 1000000 then
    let base := nx
    let h0 : (Hp X) := ⟨t, base + ops.length⟩
    match goR T cal base ops ms h0 env ops [] none with
    | some (R, none) => some (.normal, ⟨n, envR ops R env, ds, mergeAll ms base (effL 0 R) (newL 0 R) (curH h0 (effL 0 R))⟩)
    | some (_, some (_, ch, h)) => some (.panic ch, ⟨n, dropD ops env, ds, h⟩)
    | none => none
  else none
noncomputable def drawn (T : Tb) (cal : (Cal X)) (ops : List Oper) (s : (St X)) : Option (Ex × (St X)) := match s with
  | ⟨n, env, ds, hp⟩ => match hp with
    | ⟨t, nx⟩ => drawn0 T cal ops n env ds t nx
theorem drawn_eq (T : Tb) (cal : (Cal X)) (ops : List Oper) (s : (St X)) : drawn T cal ops s =
    let ms := (masks ops []).reverse
    bif pairsOk ops ms && dstsOk s.n ops && Nat.blt (s.hp.nx + ops.length) 1000000 then
      let base := s.hp.nx
      let h0 : (Hp X) := ⟨s.hp.t, base + ops.length⟩
      match goR T cal base ops ms h0 s.env ops [] none with
      | some (R, none) => some (.normal, ⟨s.n, envR ops R s.env, s.ds, mergeAll ms base (effL 0 R) (newL 0 R) (curH h0 (effL 0 R))⟩)
      | some (_, some (_, ch, h)) => some (.panic ch, ⟨s.n, dropD ops s.env, s.ds, h⟩)
      | none => none
    else none := by
  cases s; rfl

/-! calls -/
noncomputable def envOf : Nat → List Value → Tr Value → Tr Value
  | _, [], t => t
  | k, v :: l, t => envOf (k + 1) l (t.put (some v) 20 k)
noncomputable def resl (T : Tb) (h : (Hp X)) (env : Tr Value) : List ResultVar → Option (List Value)
  | [] => some []
  | .tmp t :: l => match env.get t, resl T h env l with
    | some v, some r => some (v :: r)
    | _, _ => none
  | .cell a t :: l => match env.get a with
    | some (.pointer (some x)) => match ldv T h t x, resl T h env l with
      | some v, some r => some (v :: r)
      | _, _ => none
    | _ => none
noncomputable def resv (T : Tb) (h : (Hp X)) (env : Tr Value) (l : List ResultVar) : Option Value := match resl T h env l with
  | some [v] => some v
  | some vs => some (.tuple vs.toArray)
  | none => none

/-- how a frame is left -/
inductive Md where
  | ret
  | panic (ch : Ch)

noncomputable def settleM : Md → Md
  | .panic ((_, _, true) :: _) => .ret
  | m => m
noncomputable def raisedM : Md → Ch → Md
  | .panic old, ch => .panic (ch ++ old)
  | .ret, ch => .panic ch

/-- code of a deferred function that may recover: sequences, conditions, regions -/
noncomputable def recOps (T : Tb) (cal : (Cal X)) (ops : List Oper) : List Oper → (St X) → Md → Option (Ex × (St X) × Md)
  | [], s, u => some (.normal, s, u)
  | o :: rest, s, u => match wantd ops s.env o with
    | some true => match o.op with
      | .call ⟨.builtin .recover, _, _⟩ => match u with
        | .panic ((t, v, false) :: older) => match s.put o.dst (.iface t v) s.hp with
          | some s' => recOps T cal ops rest s' (.panic ((t, v, true) :: older))
          | none => none
        | .ret => match s.put o.dst .nilIface s.hp with
          | some s' => recOps T cal ops rest s' u
          | none => none
        | _ => none
      | _ => match stepOp T cal o s with
        | some (.normal, s') => recOps T cal ops rest s' u
        | some (e, s') => some (e, s', u)
        | none => none
    | some false => match s.put o.dst (.tuple #[]) s.hp with
      | some s' => recOps T cal ops rest s' u
      | none => none
    | none => none
noncomputable def recov (T : Tb) (ex : (Run X)) (cal : (Cal X)) : Code → (St X) → Md → Option (Ex × (St X) × Md)
  | .seq a b, s, u => match recov T ex cal a s u with
    | some (.normal, s', u') => recov T ex cal b s' u'
    | r => r
  | .cond c a b, s, u => match evO s.env c with
    | some (.bool true) => recov T ex cal a s u
    | some (.bool false) => recov T ex cal b s u
    | _ => none
  | .region _ ops false, s, u => recOps T cal ops.toList ops.toList s u
  | c, s, u => match ex c s with
    | some [(e, s')] => some (e, s', u)
    | _ => none

abbrev Fb := FuncId → Option Func
noncomputable def start (fn : Func) (args : List Value) (h : (Hp X)) : Option (St X) :=
  bif Nat.ble args.length fn.ntmps && Nat.blt args.length 1000 then some ⟨fn.ntmps, envOf 0 args .nil, [], h⟩ else none

/-- a deferred call -/
noncomputable def defd (T : Tb) (F : Fb) (ex : (Run X)) (cal : (Cal X)) (d : Df) (u : Md) (h : (Hp X)) : Option (Md × (Hp X)) :=
  match F d.f with
  | none => none
  | some fn => match fn.body, start fn (d.args ++ d.cap) h with
    | some c, some s => match recov T ex cal c s u with
      | some (.normal, s', u') => fin s' u' fn
      | some (.ret, s', u') => fin s' u' fn
      | some (.panic ch, s', u') => bif s'.ds.isEmpty then some (raisedM u' ch, s'.hp) else none
      | _ => none
    | _, _ => none
where
  fin (s : (St X)) (u : Md) (fn : Func) : Option (Md × (Hp X)) :=
    bif s.ds.isEmpty then match resv T s.hp s.env fn.results.toList with
      | some _ => some (settleM u, s.hp)
      | none => none
    else none
noncomputable def leave (T : Tb) (F : Fb) (ex : (Run X)) (cal : (Cal X)) (fn : Func) (env : Tr Value) : List Df → Md → (Hp X) → Option (En X)
  | [], .ret, h => match resv T h env fn.results.toList with
    | some v => some (.ret v h)
    | none => none
  | [], .panic ch, h => some (.panic ch h)
  | d :: ds, u, h => match defd T F ex cal d u h with
    | some (u', h') => leave T F ex cal fn env ds u' h'
    | none => none

/-! are two ends alike? -/
mutual
noncomputable def alike : Nat → Value → Value → Bool
  | 0, _, _ => false
  | n + 1, a, b => match a, b with
    | .iface t u, .iface t' u' => Nat.beq t t' && alike n u u'
    | .func (.func f) x y, .func (.func f') x' y' => Nat.beq f f' && alikeL n x.toList x'.toList && alikeL n y.toList y'.toList
    | .agg x, .agg y => alikeL n x.toList y.toList
    | .tuple x, .tuple y => alikeL n x.toList y.toList
    | a, b => sameV a b
noncomputable def alikeL : Nat → List Value → List Value → Bool
  | 0, _, _ => false
  | _ + 1, [], [] => true
  | n + 1, a :: l, b :: m => alike n a b && alikeL n l m
  | _ + 1, _, _ => false
end
noncomputable def alikeC : List Value → List Value → Bool
  | [], [] => true
  | a :: l, b :: m => alike 50 a b && alikeC l m
  | _, _ => false
noncomputable def alikeE : List MapEntry → List MapEntry → Bool
  | [], [] => true
  | a :: l, b :: m => alike 50 a.key b.key && alike 50 a.val b.val && Nat.beq a.born b.born && alikeE l m
  | _, _ => false
noncomputable def alikeO : (Ob X) → (Ob X) → Bool
  | .cells c t x, .cells d u y => alikeC c d && Nat.beq t u && (x == y)
  | .map es ck, .map es' ck' => alikeE es es' && Nat.beq ck ck'
  | .mit m a l b, .mit m' a' l' b' => decide (m = m') && Nat.beq a a' && decide (l = l') && Nat.beq b b'
  | _, _ => false
/-- what two memories have alike -/
noncomputable def joinT : Tr (Ob X) → Tr (Ob X) → Tr (Ob X)
  | .node l v r, .node l' v' r' => .node (joinT l l') (match v, v' with
    | some a, some b => bif alikeO a b then some a else none
    | _, _ => none) (joinT r r')
  | _, _ => .nil
noncomputable def joinH (a b : (Hp X)) : (Hp X) := ⟨joinT a.t b.t, max a.nx b.nx⟩
noncomputable def alikeCh : List (TypeId × Value × Bool) → List (TypeId × Value × Bool) → Bool
  | [], [] => true
  | (t, v, r) :: l, (t', v', r') :: m => Nat.beq t t' && alike 50 v v' && (r == r') && alikeCh l m
  | _, _ => false
noncomputable def joinN : (En X) → (En X) → Option (En X)
  | .ret v h, .ret v' h' => bif alike 50 v v' then some (.ret v (joinH h h')) else none
  | .panic c h, .panic c' h' => bif alikeCh c c' then some (.panic c (joinH h h')) else none
  | _, _ => none
noncomputable def joinAll : (En X) → List (En X) → Option (En X)
  | e, [] => some e
  | e, x :: l => match joinN e x with
    | some e' => joinAll e' l
    | none => none
noncomputable def oneOf : List (En X) → Option (En X)
  | [] => none
  | e :: l => joinAll e l
noncomputable def ens (f : Ex × (St X) → Option (En X)) : List (Ex × (St X)) → Option (List (En X))
  | [] => some []
  | x :: l => match f x with
    | some e => match ens f l with
      | some r => some (e :: r)
      | none => none
    | none => none

/-- calls that are told, not run -/
abbrev Hk (X : Type) := FuncId → List Value → (Hp X) → Option (En X)
noncomputable def endF (T : Tb) (F : Fb) (ex : (Run X)) (cal : (Cal X)) (fn : Func) : Ex × (St X) → Option (En X)
  | (.normal, ⟨_, env, ds, hp⟩) => leave T F ex cal fn env ds .ret hp
  | (.ret, ⟨_, env, ds, hp⟩) => leave T F ex cal fn env ds .ret hp
  | (.panic ch, ⟨_, env, ds, hp⟩) => leave T F ex cal fn env ds (.panic ch) hp
  | _ => none
noncomputable def callF (T : Tb) (F : Fb) (K : (Hk X)) (ex : (Run X)) (cal : (Cal X)) (f : FuncId) (args : List Value) (h : (Hp X)) : Option (En X) :=
  match K f args h with
  | some e => some e
  | none => match F f with
    | none => none
    | some fn => match fn.body, start fn args h with
      | some c, some s => match ex c s with
        | some L => match ens (endF T F ex cal fn) L with
          | some l => oneOf l
          | none => none
        | none => none
      | _, _ => none

noncomputable def thenB (f : (St X) → Option (List (Ex × (St X)))) : Ex × (St X) → Option (List (Ex × (St X)))
  | (.normal, s) => f s
  | r => some [r]
noncomputable def outB (id : Nat) : Ex × (St X) → Ex × (St X)
  | (.exit i, s) => bif Nat.beq i id then (.normal, s) else (.exit i, s)
  | r => r
mutual
noncomputable def exec (T : Tb) (F : Fb) (K : (Hk X)) : Nat → (Run X)
  | 0, _, _ => none
  | n + 1, c, s => match c with
    | .skip => some [(.normal, s)]
    | .label _ => some [(.normal, s)]
    | .exit id => some [(.exit id, s)]
    | .ret => some [(.ret, s)]
    | .seq a b => match exec T F K n a s with
      | some L => each (thenB (exec T F K n b)) L
      | none => none
    | .cond c a b => match evO s.env c with
      | some (.bool true) => exec T F K n a s
      | some (.bool false) => exec T F K n b s
      | _ => none
    | .block id b => match exec T F K n b s with
      | some L => some (L.map (outB id))
      | none => none
    | .scope b => exec T F K n b s
    | .loop b => match exec T F K n b s with
      | some L => each (thenB (exec T F K n (.loop b))) L
      | none => none
    | .region _ ops false => seqOps T (call T F K n) ops.toList ops.toList s
    | .region _ ops true => match drawn T (call T F K n) ops.toList s with
      | some r => some [r]
      | none => none
    | _ => none
noncomputable def call (T : Tb) (F : Fb) (K : (Hk X)) : Nat → (Cal X)
  | 0, _, _, _ => none
  | n + 1, f, args, h => callF T F K (exec T F K n) (call T F K n) f args h
end

end Go.Ev
