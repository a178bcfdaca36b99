/-
  An abstract machine over pure data, for proofs about Go functions: its operations, its weakest preconditions, the translation of the model's code into it.
-/
import Derived.Laws.Rows
import Derived.Laws.AppendOwn
import Derived.Calls
import Derived.Tactics
import Derived.Below
import Derived.Laws.RangeString
namespace Go.Am
open Go
inductive D where
  | int (k : IntKind) (n : Int)
  | bool (b : Bool)
  | str (s : List UInt8)
  | list (sz : Nat) (l : List (List D))
  | fn (f : FuncId)
  | nilp
  | nilf
  | nili
  deriving Inhabited
inductive C where
  | d (d : D)
  | nil
  | own (x n : Nat)
  | ptr (x off : Nat)
  | rptr (x n i off : Nat)
  | lptr (e : List D) (off : Nat)
  | clo (f : FuncId) (caps : List C)
  | lit (sz : Nat) (l : List (List D))
  | map (x : Nat)
  | iter (x : Nat)
  | any
  deriving Inhabited
inductive V where
  | c (c : C)
  | agg (cs : List C)
  | tup (vs : List V)
  deriving Inhabited
inductive DV where
  | c (d : D)
  | agg (ds : List D)
  | tup (vs : List DV)
  deriving Inhabited
inductive Ob where
  | cells (cs : List C)
  | row (sz : Nat) (l : List (List D))
  | map (es : List (D × C))
  | iter (s : List UInt8) (pos : Nat)
  deriving Inhabited
structure Hp where
  next : Nat
  obs : List (Nat × Ob)
def look {α : Type} : List (Nat × α) → Nat → Option α
  | [], _ => none
  | (k, a) :: r, n => if k = n then some a else look r n
def put {α : Type} : List (Nat × α) → Nat → α → Option (List (Nat × α))
  | [], _, _ => none
  | (k, a) :: r, n, b => if k = n then some ((k, b) :: r) else match put r n b with | some l => some ((k, a) :: l) | none => none
def firstN {α : Type} : List α → Nat → Option (List α)
  | _, 0 => some []
  | [], _ + 1 => none
  | a :: r, n + 1 => match firstN r n with | some l => some (a :: l) | none => none
def sub {α : Type} : List α → Nat → Nat → Option (List α)
  | l, 0, n => firstN l n
  | [], _ + 1, _ => none
  | _ :: r, o + 1, n => sub r o n
def over {α : Type} : List α → List α → Option (List α)
  | l, [] => some l
  | [], _ :: _ => none
  | _ :: r, v :: vs => match over r vs with | some l => some (v :: l) | none => none
def splice {α : Type} : List α → Nat → List α → Option (List α)
  | l, 0, vs => over l vs
  | [], _ + 1, _ => none
  | a :: r, o + 1, vs => match splice r o vs with | some l => some (a :: l) | none => none
def del {α : Type} : List (Nat × α) → Nat → List (Nat × α)
  | [], _ => []
  | (k, a) :: r, n => if k = n then del r n else (k, a) :: del r n
abbrev Env := List (Nat × V)
def getV : Env → Nat → V
  | [], _ => .c .any
  | (k, a) :: r, n => if k = n then a else getV r n
def keep (ts : List Nat) (e : Env) : Env := ts.map fun t => (t, getV e t)
structure St where
  env : Env
  hp : Hp
inductive Opd where
  | t (n : Nat)
  | k (v : V)
  deriving Inhabited
def ev (e : Env) : Opd → V
  | .t n => getV e n
  | .k v => v
inductive AOp where
  | move (x : Opd)
  | pick (c a b : Opd)
  | alloc (zero : List C)
  | box (x : Opd)
  | build (zero : List C) (parts : List (Nat × Nat × Opd))
  | lit (sz n : Nat) (zero : List D) (parts : List (Nat × Opd)) (own : Bool)
  | litX (sz n : Nat) (zero : List D) (parts : List (Nat × Opd))
  | newRow (sz : Nat)
  | load (x : Opd) (n : Nat) (agg : Bool)
  | store (x v : Opd) (n : Nat)
  | bin (op : BinOp) (x y : Opd)
  | beq (neg : Bool) (x y : Opd)
  | not (x : Opd)
  | toInt (k : IntKind) (x : Opd)
  | b2s (x : Opd)
  | s2s (x : Opd)
  | b2b (x : Opd)
  | range (x : Opd)
  | next (x : Opd)
  | makeMap
  | mapSet (wd : Bool) (ks : List Nat) (m k x : Opd)
  | mapGet (wd : Bool) (ks : List Nat) (m k : Opd) (zero : C) (ok : Bool)
  | eqA (neg : Bool) (ks : List Nat) (x y : Opd)
  | r2s (x : Opd)
  | isNil (neg : Bool) (x : Opd)
  | stuck
  | s2b (x : Opd) (own : Bool)
  | slice (sz : Nat) (x : Opd) (lo hi mx : Option Opd)
  | substr (x : Opd) (lo hi : Option Opd)
  | fieldAddr (x : Opd) (off : Nat)
  | field (x : Opd) (off n : Nat) (agg : Bool)
  | idxAddr (sz : Nat) (x i : Opd)
  | arrAddr (x i : Opd) (sz len : Nat)
  | index (x i : Opd) (sz len : Nat) (agg : Bool)
  | strAt (x i : Opd)
  | extract (x : Opd) (i : Nat)
  | len (x : Opd)
  | lenStr (x : Opd)
  | lenArr (n : Nat)
  | min (x y : Opd)
  | max (x y : Opd)
  | append (x y : Opd) (sz : Nat)
  | nilCheck (x : Opd)
  | mkFunc (f : FuncId) (caps : List Opd)
  | pcall (f : FuncId) (args : List Opd)
  | hcall (f : FuncId) (args : List Opd)
  | vcall (f : Opd) (args : List Opd)
  deriving Inhabited
structure AOper where
  dst : Option Nat
  op : AOp
  guard : Option (Nat × Bool)
  deriving Inhabited
def C.toD (h : Hp) : C → Option D
  | .d x => some x
  | .nil => some (.list 0 [])
  | .own x n => match look h.obs x with
    | some (.row sz l) => if n = l.length then some (.list sz l) else none
    | _ => none
  | _ => none
def toDs (h : Hp) : List C → Option (List D)
  | [] => some []
  | c :: r => match c.toD h with
    | some d => match toDs h r with
      | some ds => some (d :: ds)
      | none => none
    | none => none
def V.toDV (h : Hp) : V → Option DV
  | .c q => match q.toD h with | some d => some (.c d) | none => none
  | .agg cs => match toDs h cs with | some ds => some (.agg ds) | none => none
  | .tup _ => none
def toDVs (h : Hp) : List V → Option (List DV)
  | [] => some []
  | v :: r => match v.toDV h with
    | some d => match toDVs h r with
      | some ds => some (d :: ds)
      | none => none
    | none => none
def dsC : List D → Option (List C)
  | [] => some []
  | d :: r => match dsC r with | some l => some (.d d :: l) | none => none
def DV.toV1 : DV → Option V
  | .c d => some (.c (.d d))
  | .agg ds => match dsC ds with | some cs => some (.agg cs) | none => none
  | .tup _ => none
def toV1s : List DV → Option (List V)
  | [] => some []
  | d :: r => match d.toV1, toV1s r with | some v, some vs => some (v :: vs) | _, _ => none
def DV.toV : DV → Option V
  | .tup vs => match toV1s vs with | some l => some (.tup l) | none => none
  | d => d.toV1
def C.lst (h : Hp) (c : C) : Option (Nat × List (List D)) :=
  match c.toD h with
  | some (.list sz l) => some (sz, l)
  | _ => none
def sized (sz s : Nat) (l : List (List D)) : Bool := sz == s || l.isEmpty
def C.shed (o : List (Nat × Ob)) : C → List (Nat × Ob)
  | .own x _ => del o x
  | _ => o
def shedCs (o : List (Nat × Ob)) : List C → List (Nat × Ob)
  | [] => o
  | c :: r => shedCs (c.shed o) r
def V.shed (o : List (Nat × Ob)) : V → List (Nat × Ob)
  | .c q => q.shed o
  | .agg cs => shedCs o cs
  | .tup _ => o
def shedVs (o : List (Nat × Ob)) : List V → List (Nat × Ob)
  | [] => o
  | v :: r => shedVs (v.shed o) r
def D.flat : D → Bool
  | .list _ _ => false
  | _ => true
def DV.flat : DV → Bool
  | .c d => d.flat
  | .agg ds => ds.all D.flat
  | .tup vs => vs.all fun | .c d => d.flat | .agg ds => ds.all D.flat | .tup _ => false
def C.isAny : C → Bool
  | .any => true
  | _ => false
def noAny : List C → Bool
  | [] => true
  | .any :: _ => false
  | _ :: r => noAny r
def V.cells : V → Option (List C)
  | .c .any => none
  | .c q => some [q]
  | .agg cs => (match noAny cs with | true => some cs | false => none)
  | .tup _ => none
def mkV : Bool → Option (List C) → Option V
  | true, some cs => some (.agg cs)
  | false, some [q] => some (.c q)
  | _, _ => none
def mapD : Option (List D) → Option (List C)
  | some ds => dsC ds
  | none => none
def binInt (op : BinOp) (k : IntKind) (a b : Int) : Option D :=
  match op with
  | .add => some (.int k (k.wrap (a + b)))
  | .sub => some (.int k (k.wrap (a - b)))
  | .mul => some (.int k (k.wrap (a * b)))
  | .quo => if b = 0 then none else some (.int k (k.wrap (a.tdiv b)))
  | .rem => if b = 0 then none else some (.int k (a.tmod b))
  | .and => some (.int k (k.wrap (BitVec.ofInt k.bits a &&& BitVec.ofInt k.bits b).toNat))
  | .or => some (.int k (k.wrap (BitVec.ofInt k.bits a ||| BitVec.ofInt k.bits b).toNat))
  | .xor => some (.int k (k.wrap (BitVec.ofInt k.bits a ^^^ BitVec.ofInt k.bits b).toNat))
  | .andNot => some (.int k (k.wrap (BitVec.ofInt k.bits a &&& ~~~ BitVec.ofInt k.bits b).toNat))
  | .eql => some (.bool (a == b))
  | .neq => some (.bool (a != b))
  | .lss => some (.bool (decide (a < b)))
  | .leq => some (.bool (decide (a ≤ b)))
  | .gtr => some (.bool (decide (a > b)))
  | .geq => some (.bool (decide (a ≥ b)))
  | _ => none
def shiftInt (op : BinOp) (k : IntKind) (a b : Int) : Option D :=
  if b < 0 then none else
  match op with
  | .shl => some (.int k (k.wrap (a * 2 ^ (Nat.min b.toNat k.bits))))
  | .shr => some (.int k (a.fdiv (2 ^ (Nat.min b.toNat k.bits))))
  | _ => none
def strLess : List UInt8 → List UInt8 → Bool := Op.bytesLess
def binStr (op : BinOp) (s t : List UInt8) : Option D :=
  match op with
  | .add => if s.length + t.length ≤ 9223372036854775807 then some (.str (s ++ t)) else none
  | .eql => some (.bool (s == t))
  | .neq => some (.bool (!(s == t)))
  | .lss => some (.bool (strLess s t))
  | .leq => some (.bool (strLess s t || s == t))
  | .gtr => some (.bool (!(strLess s t || s == t)))
  | .geq => some (.bool (!strLess s t))
  | _ => none
def isShift : BinOp → Bool
  | .shl | .shr => true
  | _ => false
def binD (op : BinOp) : D → D → Option D
  | .int k a, .int k' b => if isShift op then shiftInt op k a b else if k = k' then binInt op k a b else none
  | .str s, .str t => binStr op s t
  | _, _ => none
def binV (op : BinOp) : V → V → Option V
  | .c (.d a), .c (.d b) => match binD op a b with | some d => some (.c (.d d)) | none => none
  | _, _ => none
def encB (s : List UInt8) : List (List D) := s.map fun b => [.int .u8 b.toNat]
def decB : List (List D) → Option (List UInt8)
  | [] => some []
  | [.int .u8 n] :: r => match decB r with | some s => some (UInt8.ofNat n.toNat :: s) | none => none
  | _ => none
def asInt : V → Option Int
  | .c (.d (.int _ n)) => some n
  | _ => none
def bnd (e : Env) (d : Option Nat) (lim : Nat) : Option Opd → Option Nat
  | none => d
  | some o => match asInt (ev e o) with
    | some i => if 0 ≤ i ∧ i ≤ lim then some i.toNat else none
    | none => none
def dflt (n : Nat) : Option Opd → Option Nat
  | none => some n
  | some _ => none
def bounds (e : Env) (n : Nat) (lo hi mx : Option Opd) : Option (Nat × Nat) :=
  match bnd e (some n) n mx with
  | none => none
  | some m => match bnd e (dflt n mx) m hi with
    | none => none
    | some h => match bnd e (some 0) h lo with
      | none => none
      | some l => some (l, h)
def fillC (e : Env) : List C → List (Nat × Nat × Opd) → Option (List C)
  | z, [] => some z
  | z, (off, sz, o) :: r => match (ev e o).cells with
    | some cs => if cs.length = sz then (match splice z off cs with | some z' => fillC e z' r | none => none) else none
    | none => none
def repl {α : Type} : Nat → α → List α
  | 0, _ => []
  | n + 1, a => a :: repl n a
def fillE (e : Env) (h : Hp) (sz : Nat) : List (List D) → List (Nat × Opd) → Option (List (List D) × List (Nat × Ob))
  | l, [] => some (l, h.obs)
  | l, (i, o) :: r => match (ev e o).cells with
    | some cs => match toDs h cs with
      | some ds => if ds.length = sz then (match splice l i [ds] with
          | some l' => (match fillE e h sz l' r with | some (l'', ob) => some (l'', shedCs ob cs) | none => none)
          | none => none) else none
      | none => none
    | none => none
def room : Nat := 2147483648
def evs (e : Env) : List Opd → List V
  | [] => []
  | o :: r => ev e o :: evs e r
def evCs (e : Env) : List Opd → Option (List C)
  | [] => some []
  | o :: r => match ev e o, evCs e r with
    | .c q, some l => (match q with | .any => none | q => some (q :: l))
    | _, _ => none
structure Call where
  pure : FuncId → Option (List DV → Option DV)
  heap : FuncId → Option (List V → Hp → (V → Hp → Prop) → Prop)
def sameF : Nat → D → D → Option Bool
  | 0, .int k a, .int k' b => if k = k' then some (a == b) else none
  | 1, .str a, .str b => some (a == b)
  | 2, .bool a, .bool b => some (a == b)
  | _, _, _ => none
def sameFs : List Nat → List D → List D → Option Bool
  | [], [], [] => some true
  | k :: ks, a :: l, b :: r => match sameF k a b, sameFs ks l r with | some x, some y => some (x && y) | _, _ => none
  | _, _, _ => none
def flatDs : List C → Option (List D)
  | [] => some []
  | .d d :: r => match d.flat, flatDs r with | true, some l => some (d :: l) | _, _ => none
  | _ :: _ => none
def keyD : V → Option D
  | .c (.d d) => match d.flat with | true => some d | false => none
  | .agg cs => match flatDs cs with | some ds => some (.list 0 [ds]) | none => none
  | _ => none
def okF : Nat → D → Bool
  | 0, .int _ _ => true
  | 1, .str _ => true
  | 2, .bool _ => true
  | _, _ => false
def okFs : List Nat → List D → Bool
  | [], [] => true
  | k :: ks, a :: l => match okF k a with | true => okFs ks l | false => false
  | _, _ => false
def okK (wd : Bool) (ks : List Nat) (a : D) : Bool :=
  match wd with
  | false => okFs ks [a]
  | true => match a with
    | .list _ [x] => okFs ks x
    | _ => false
def sameK (wd : Bool) (ks : List Nat) (a b : D) : Option Bool :=
  match wd with
  | false => sameFs ks [a] [b]
  | true => match a, b with
    | .list _ [x], .list _ [y] => sameFs ks x y
    | _, _ => none
def findK (wd : Bool) (ks : List Nat) (k : D) : List (D × C) → Option (Option C)
  | [] => some none
  | (k', c) :: r => match sameK wd ks k k' with
    | some true => some (some c)
    | some false => findK wd ks k r
    | none => none
def setK (wd : Bool) (ks : List Nat) (k : D) (x : C) : List (D × C) → Option (List (D × C))
  | [] => some [(k, x)]
  | (k', c) :: r => match sameK wd ks k k' with
    | some true => some ((k, x) :: r)
    | some false => match setK wd ks k x r with | some r' => some ((k', c) :: r') | none => none
    | none => none
def eval (cl : Call) (e : Env) : Hp → AOp → Option (V × Hp)
  | h, .move x => match ev e x with
    | .c q => some (.c q, h)
    | .agg cs => some (.agg cs, h)
    | .tup vs => some (.tup vs, h)
  | h, .pick c a b => match ev e c with
    | .c (.d (.bool true)) => some (ev e a, h)
    | .c (.d (.bool false)) => some (ev e b, h)
    | _ => none
  | ⟨nx, ob⟩, .alloc z => some (.c (.ptr nx 0), ⟨nx + 1, (nx, .cells z) :: ob⟩)
  | ⟨nx, ob⟩, .box x => match (ev e x).cells with
    | some cs => some (.c (.ptr nx 0), ⟨nx + 1, (nx, .cells cs) :: ob⟩)
    | none => none
  | h, .build z ps => match fillC e z ps with | some cs => some (.agg cs, h) | none => none
  | ⟨nx, ob⟩, .lit sz n z ps own => match fillE e ⟨nx, ob⟩ sz (repl n z) ps with
    | some (l, ob') => (match own with
      | true => some (.c (.own nx l.length), ⟨nx + 1, (nx, .row sz l) :: ob'⟩)
      | false => some (.c (.d (.list sz l)), ⟨nx, ob'⟩))
    | none => none
  | ⟨nx, ob⟩, .litX sz n z ps => match fillE e ⟨nx, ob⟩ sz (repl n z) ps with
    | some (l, ob') => some (.c (.lit sz l), ⟨nx, ob'⟩)
    | none => none
  | ⟨nx, ob⟩, .newRow sz => some (.c (.own nx 0), ⟨nx + 1, (nx, .row sz []) :: ob⟩)
  | ⟨nx, ob⟩, .load x n agg => match ev e x with
    | .c (.ptr y off) => (match look ob y with
      | some (.cells cs) => (match mkV agg (sub cs off n) with | some v => some (v, ⟨nx, ob⟩) | none => none)
      | _ => none)
    | .c (.lptr el off) => (match mkV agg (mapD (sub el off n)) with | some v => some (v, ⟨nx, ob⟩) | none => none)
    | .c (.rptr y m i off) => (match look ob y with
      | some (.row _ l) => if m = l.length then (match l[i]? with
          | some el => (match mkV agg (mapD (sub el off n)) with | some v => some (v, ⟨nx, ob⟩) | none => none)
          | none => none) else none
      | _ => none)
    | _ => none
  | ⟨nx, ob⟩, .store x v n => match (ev e v).cells with
    | none => none
    | some vs => if vs.length = n then (match ev e x with
      | .c (.ptr y off) => (match look ob y with
        | some (.cells cs) => (match splice cs off vs with
          | some cs' => (match put ob y (.cells cs') with | some ob' => some (.tup [], ⟨nx, ob'⟩) | none => none)
          | none => none)
        | _ => none)
      | .c (.rptr y m i off) => (match toDs ⟨nx, ob⟩ vs with
        | some ds => (match look (shedCs ob vs) y with
          | some (.row sz l) => if m = l.length then (match l[i]? with
            | some el => (match splice el off ds with
              | some el' => (match put (shedCs ob vs) y (.row sz (l.set i el')) with | some ob' => some (.tup [], ⟨nx, ob'⟩) | none => none)
              | none => none)
            | none => none) else none
          | _ => none)
        | none => none)
      | _ => none) else none
  | h, .bin op x y => match binV op (ev e x) (ev e y) with | some v => some (v, h) | none => none
  | h, .beq neg x y => match ev e x, ev e y with
    | .c (.d (.bool a)), .c (.d (.bool b)) => (match neg with | true => some (.c (.d (.bool (!(a == b)))), h) | false => some (.c (.d (.bool (a == b))), h))
    | _, _ => none
  | h, .not x => match ev e x with | .c (.d (.bool b)) => some (.c (.d (.bool (!b))), h) | _ => none
  | h, .toInt k x => match ev e x with | .c (.d (.int _ n)) => some (.c (.d (.int k (k.wrap n))), h) | _ => none
  | h, .s2s x => match ev e x with
    | .c (.d (.str s)) => some (.c (.d (.str s)), h)
    | _ => none
  | ⟨nx, ob⟩, .b2b x => match ev e x with
    | .c (.own y n) => (match look ob y with
      | some (.row sz l) => if sz = 1 ∧ n = l.length ∧ 0 < n then (match put ob y (.row 1 l) with | some ob' => some (.c (.own y n), ⟨nx, ob'⟩) | none => none) else none
      | _ => none)
    | _ => none
  | ⟨nx, ob⟩, .range x => match ev e x with
    | .c (.d (.str s)) => some (.c (.iter nx), ⟨nx + 1, (nx, .iter s 0) :: ob⟩)
    | _ => none
  | ⟨nx, ob⟩, .next x => match ev e x with
    | .c (.iter y) => (match look ob y with
      | some (.iter s pos) => if pos < s.length then
          (match put ob y (.iter s (pos + (Utf8.decode ⟨⟨s⟩⟩ pos).2)) with
            | some ob' => some (.tup [.c (.d (.bool true)), .c (.d (.int .i64 pos)), .c (.d (.int .i32 (Utf8.decode ⟨⟨s⟩⟩ pos).1))], ⟨nx, ob'⟩)
            | none => none)
        else some (.tup [.c (.d (.bool false))], ⟨nx, ob⟩)
      | _ => none)
    | _ => none
  | ⟨nx, ob⟩, .makeMap => some (.c (.map nx), ⟨nx + 1, (nx, .map []) :: ob⟩)
  | ⟨nx, ob⟩, .mapSet wd ks m k x => match ev e m, keyD (ev e k), ev e x with
    | .c (.map y), some kd, .c q => (match q.isAny, okK wd ks kd, look ob y with
      | false, true, some (.map es) => (match setK wd ks kd q es with
        | some es' => (match put ob y (.map es') with | some ob' => some (.tup [], ⟨nx, ob'⟩) | none => none)
        | none => none)
      | _, _, _ => none)
    | _, _, _ => none
  | ⟨nx, ob⟩, .mapGet wd ks m k zero ok => match ev e m, keyD (ev e k) with
    | .c (.map y), some kd => (match okK wd ks kd, look ob y with
      | true, some (.map es) => (match findK wd ks kd es with
        | some (some q) => (match ok with | true => some (.tup [.c q, .c (.d (.bool true))], ⟨nx, ob⟩) | false => some (.c q, ⟨nx, ob⟩))
        | some none => (match ok with | true => some (.tup [.c zero, .c (.d (.bool false))], ⟨nx, ob⟩) | false => some (.c zero, ⟨nx, ob⟩))
        | none => none)
      | _, _ => none)
    | _, _ => none
  | h, .eqA neg ks x y => match ev e x, ev e y with
    | .agg a, .agg b => (match flatDs a, flatDs b with
      | some l, some r => (match sameFs ks l r with
        | some q => (match neg with | true => some (.c (.d (.bool (!q))), h) | false => some (.c (.d (.bool q)), h))
        | none => none)
      | _, _ => none)
    | _, _ => none
  | _, .stuck => none
  | h, .r2s x => match ev e x with
    | .c (.d (.int _ n)) => if 0 ≤ n ∧ n < 128 then some (.c (.d (.str [UInt8.ofNat n.toNat])), h) else none
    | _ => none
  | h, .isNil neg x => match ev e x with
    | .c .nil => some (.c (.d (.bool (!neg))), h)
    | .c q => (match q.lst h with
      | some (_, _ :: _) => some (.c (.d (.bool neg)), h)
      | _ => none)
    | _ => none
  | h, .b2s x => match ev e x with
    | .c q => (match q.lst h with
      | some (_, l) => (match decB l with | some s => some (.c (.d (.str s)), h) | none => none)
      | none => none)
    | _ => none
  | ⟨nx, ob⟩, .s2b x own => match ev e x with
    | .c (.d (.str s)) => if s.length ≤ room then (match own with
      | true => some (.c (.own nx s.length), ⟨nx + 1, (nx, .row 1 (encB s)) :: ob⟩)
      | false => some (.c (.d (.list 1 (encB s))), ⟨nx, ob⟩)) else none
    | _ => none
  | ⟨nx, ob⟩, .slice sz x lo hi mx => match ev e x with
    | .c q => (match q.lst ⟨nx, ob⟩ with
      | some (sz', s) => (match sized sz' sz s with
        | true => (match bounds e s.length lo hi mx with | some (l, r) => some (.c (.d (.list sz ((s.take r).drop l))), ⟨nx, q.shed ob⟩) | none => none)
        | false => none)
      | none => none)
    | _ => none
  | h, .substr x lo hi => match ev e x with
    | .c (.d (.str s)) => (match bounds e s.length lo hi none with | some (l, r) => some (.c (.d (.str ((s.take r).drop l))), h) | none => none)
    | _ => none
  | h, .fieldAddr x off => match ev e x with
    | .c (.ptr y o) => some (.c (.ptr y (o + off)), h)
    | .c (.lptr el o) => some (.c (.lptr el (o + off)), h)
    | .c (.rptr y m i o) => some (.c (.rptr y m i (o + off)), h)
    | _ => none
  | h, .field x off n agg => match ev e x with
    | .agg cs => (match mkV agg (sub cs off n) with | some v => some (v, h) | none => none)
    | _ => none
  | h, .idxAddr sz x i => match asInt (ev e i) with
    | none => none
    | some i => match ev e x with
      | .c (.own y n) => (match look h.obs y with
        | some (.row sz' l) => if sz' = sz ∧ n = l.length ∧ 0 ≤ i ∧ i < n then some (.c (.rptr y n i.toNat 0), h) else none
        | _ => none)
      | .c q => (match q.lst h with
        | some (_, l) => if 0 ≤ i then (match l[i.toNat]? with | some el => if el.length = sz then some (.c (.lptr el 0), h) else none | none => none) else none
        | none => none)
      | _ => none
  | h, .arrAddr x i sz len => match asInt (ev e i) with
    | none => none
    | some i => if 0 ≤ i ∧ i < len then (match ev e x with
      | .c (.ptr y o) => some (.c (.ptr y (o + i.toNat * sz)), h)
      | .c (.lptr el o) => some (.c (.lptr el (o + i.toNat * sz)), h)
      | .c (.rptr y m j o) => some (.c (.rptr y m j (o + i.toNat * sz)), h)
      | _ => none) else none
  | h, .index x i sz len agg => match asInt (ev e i) with
    | none => none
    | some i => if 0 ≤ i ∧ i < len then (match ev e x with
      | .agg cs => (match mkV agg (sub cs (i.toNat * sz) sz) with | some v => some (v, h) | none => none)
      | _ => none) else none
  | h, .strAt x i => match asInt (ev e i) with
    | none => none
    | some i => match ev e x with
      | .c (.d (.str s)) => if 0 ≤ i then (match s[i.toNat]? with | some b => some (.c (.d (.int .u8 b.toNat)), h) | none => none) else none
      | _ => none
  | h, .extract x i => match ev e x with
    | .tup vs => (match vs[i]? with | some v => some (v, h) | none => none)
    | _ => none
  | h, .len x => match ev e x with
    | .c q => (match q.lst h with | some (_, l) => some (.c (.d (.int .i64 l.length)), h) | none => none)
    | _ => none
  | h, .lenStr x => match ev e x with
    | .c (.d (.str s)) => some (.c (.d (.int .i64 s.length)), h)
    | _ => none
  | h, .lenArr n => some (.c (.d (.int .i64 n)), h)
  | h, .min x y => match ev e x, ev e y with
    | .c (.d (.int k a)), .c (.d (.int _ b)) => some (.c (.d (.int k (if b < a then b else a))), h)
    | _, _ => none
  | h, .max x y => match ev e x, ev e y with
    | .c (.d (.int k a)), .c (.d (.int _ b)) => some (.c (.d (.int k (if b > a then b else a))), h)
    | _, _ => none
  | ⟨nx, ob⟩, .append x y sz => match ev e y with
    | .c cy => (match cy.lst ⟨nx, ob⟩ with
      | some (sz', ys) => (match sized sz' sz ys with
        | false => none
        | true => (match ev e x with
          | .c (.own z n) => (match look ob z with
            | some (.row sz'' l) => if sz'' = sz ∧ n = l.length ∧ l.length + ys.length ≤ room then
                (match put ob z (.row sz (l ++ ys)) with | some ob' => some (.c (.own z (l ++ ys).length), ⟨nx, ob'⟩) | none => none) else none
            | _ => none)
          | .c .nil => if ys.length ≤ room then (if ys.isEmpty then some (.c .nil, ⟨nx, ob⟩) else some (.c (.own nx ys.length), ⟨nx + 1, (nx, .row sz ys) :: ob⟩)) else none
          | .c (.lit sz'' l) => if sz'' = sz ∧ l.length + ys.length ≤ room then (if ys.isEmpty then some (.c (.lit sz l), ⟨nx, ob⟩) else some (.c (.own nx (l ++ ys).length), ⟨nx + 1, (nx, .row sz (l ++ ys)) :: ob⟩)) else none
          | _ => none))
      | none => none)
    | _ => none
  | h, .nilCheck x => match ev e x with
    | .c (.ptr y o) => some (.c (.ptr y o), h)
    | .c (.lptr el o) => some (.c (.lptr el o), h)
    | .c (.rptr y m i o) => some (.c (.rptr y m i o), h)
    | _ => none
  | h, .mkFunc f caps => match evCs e caps with
    | some cs => some (.c (.clo f cs), h)
    | none => none
  | ⟨nx, ob⟩, .pcall f args => match cl.pure f with
    | some F => (match toDVs ⟨nx, ob⟩ (evs e args) with
      | some ds => (match F ds with
        | some r => (match r.toV with
          | some v => (match r.flat with
            | true => some (v, ⟨nx, ob⟩)
            | false => some (v, ⟨nx, shedVs ob (evs e args)⟩))
          | none => none)
        | none => none)
      | none => none)
    | none => none
  | _, .hcall _ _ => none
  | _, .vcall _ _ => none
inductive ACode where
  | skip
  | region (ops : List AOper)
  | dregion (ops : List AOper) (bef : List Nat)
  | seq (a b : ACode)
  | cond (c : Opd) (x y : ACode)
  | block (id : Nat) (b : ACode)
  | loop (b : ACode)
  | exit (id : Nat)
  | goto (l : Nat)
  | jump (l : Nat) (first rest : ACode)
  | ret
  deriving Inhabited
def opt {α : Type} (o : Option α) (K : α → Prop) : Prop := match o with | some a => K a | none => False
def St.put (st : St) (dst : Option Nat) (v : V) (h : Hp) : St :=
  match dst with | some d => ⟨(d, v) :: st.env, h⟩ | none => ⟨st.env, h⟩
def vcallWp (cl : Call) (f : V) (args : List V) (h : Hp) (K : V → Hp → Prop) : Prop :=
  match f with
  | .c (.d (.fn g)) => (match cl.heap g with
    | some T => T args h K
    | none => (match cl.pure g with | some F => opt (toDVs h args) (fun ds => opt (F ds) (fun r => opt r.toV (fun v => K v (if r.flat then h else ⟨h.next, shedVs h.obs args⟩)))) | none => False))
  | .c (.clo g caps) => (match cl.heap g with | some T => T (args ++ caps.map V.c) h K | none => False)
  | _ => False
def opWp (cl : Call) (o : AOp) (st : St) (K : V → Hp → Prop) : Prop :=
  match o with
  | .hcall f args => (match cl.heap f with | some T => T (evs st.env args) st.hp K | none => False)
  | .vcall f args => vcallWp cl (ev st.env f) (evs st.env args) st.hp K
  | o => opt (eval cl st.env st.hp o) fun r => K r.1 r.2
def wanted (e : Env) : Option (Nat × Bool) → (Bool → Prop) → Prop
  | none, K => K true
  | some (g, want), K => match getV e g with
    | .c (.d (.bool b)) => (b = want → K true) ∧ (¬ b = want → K false)
    | .tup [] => K false
    | _ => False
def opsWp (cl : Call) : List AOper → (St → Prop) → St → Prop
  | [], K, st => K st
  | o :: r, K, st => wanted st.env o.guard fun w =>
      if w = true then opWp cl o.op st (fun v h => opsWp cl r K (st.put o.dst v h)) else opsWp cl r K (st.put o.dst (.tup []) st.hp)
def AOp.indep : AOp → Bool
  | .move _ | .pick _ _ _ | .build _ _ | .bin _ _ _ | .beq _ _ _ | .eqA _ _ _ _ | .not _ | .toInt _ _ | .s2s _ | .r2s _ | .substr _ _ _ | .fieldAddr _ _ | .field _ _ _ _ | .arrAddr _ _ _ _
  | .index _ _ _ _ _ | .strAt _ _ | .extract _ _ | .lenStr _ | .lenArr _ | .min _ _ | .max _ _ | .nilCheck _ | .mkFunc _ _ => true
  | _ => false
def evalR (cl : Call) (e : Env) (h : Hp) (o : AOp) (v : V) (h' : Hp) : Prop := opWp cl o ⟨e, h⟩ fun v2 h2 => v2 = v ∧ h2 = h'
structure Ent where
  op : AOp
  env : Env
  hp : Hp
  v : V
  hp' : Hp
  wr : Bool
def pairOk (cl : Call) (b i : Nat) (x y : Ent) : Prop :=
  match x.wr, y.wr with
  | true, true => b.testBit i = true
  | true, false => y.op.indep = true ∨ b.testBit i = true ∨ eval cl y.env x.hp y.op = some (y.v, x.hp)
  | false, true => x.op.indep = true ∨ b.testBit i = true ∨ eval cl x.env y.hp' x.op = some (x.v, y.hp')
  | false, false => True
def pastOk (cl : Call) (b : Nat) (y : Ent) : List (Nat × Ent) → Prop
  | [] => True
  | (i, x) :: r => pairOk cl b i x y ∧ pastOk cl b y r
def dopsWp (cl : Call) : List (Nat × Ent) → Nat → List Nat → List AOper → (St → Prop) → St → Prop
  | _, _, _, [], K, st => K st
  | past, j, bs, o :: r, K, st => wanted st.env o.guard fun w =>
      if w = true then
        (o.op.indep = true ∧ ∃ v, eval cl st.env st.hp o.op = some (v, st.hp) ∧ dopsWp cl past (j + 1) bs.tail r K (st.put o.dst v st.hp)) ∨
        (∃ v, eval cl st.env st.hp o.op = some (v, st.hp) ∧ pastOk cl (bs.headD 0) ⟨o.op, st.env, st.hp, v, st.hp, false⟩ past ∧ dopsWp cl ((j, ⟨o.op, st.env, st.hp, v, st.hp, false⟩) :: past) (j + 1) bs.tail r K (st.put o.dst v st.hp)) ∨
        (∃ v h', evalR cl st.env st.hp o.op v h' ∧ pastOk cl (bs.headD 0) ⟨o.op, st.env, st.hp, v, h', true⟩ past ∧ dopsWp cl ((j, ⟨o.op, st.env, st.hp, v, h', true⟩) :: past) (j + 1) bs.tail r K (st.put o.dst v h'))
      else dopsWp cl past (j + 1) bs.tail r K (st.put o.dst (.tup []) st.hp)
def seqK (K : St → Prop) (Q : Exit → St → Prop) : Exit → St → Prop
  | .normal, st => K st
  | e, st => Q e st
def blkK (id : Nat) (Q : Exit → St → Prop) : Exit → St → Prop
  | .exit i, st => if i = id then Q .normal st else Q (.exit i) st
  | e, st => Q e st
def condWp (v : V) (X Y : Prop) : Prop :=
  match v with
  | .c (.d (.bool b)) => (b = true → X) ∧ (b = false → Y)
  | _ => False
def Le (st st' : St) : Prop :=
  (∀ t, getV st'.env t = getV st.env t ∨ getV st'.env t = .c .any) ∧ (∀ y o, look st'.hp.obs y = some o → look st.hp.obs y = some o) ∧ st.hp.next ≤ st'.hp.next
def weak (K : St → Prop) (st : St) : Prop := ∃ st', Le st st' ∧ K st'
def loopP (B : (Exit → St → Prop) → St → Prop) (Q : Exit → St → Prop) : Nat → St → Prop
  | 0, _ => False
  | n + 1, st => weak (B (seqK (loopP B Q n) Q)) st
def jmpK (l : Nat) (K : St → Prop) (Q : Exit → St → Prop) : Exit → St → Prop
  | .goto i, st => i = l ∧ K st
  | e, st => Q e st
def jumpP (l : Nat) (B : (Exit → St → Prop) → St → Prop) (Q : Exit → St → Prop) : Nat → St → Prop
  | 0, _ => False
  | n + 1, st => weak (B (jmpK l (jumpP l B Q n) Q)) st
def awp (cl : Call) : ACode → (Exit → St → Prop) → St → Prop
  | .skip, Q, st => Q .normal st
  | .region ops, Q, st => opsWp cl ops (Q .normal) st
  | .dregion ops bef, Q, st => dopsWp cl [] 0 bef ops (Q .normal) st
  | .seq a b, Q, st => awp cl a (seqK (weak (awp cl b Q)) Q) st
  | .cond c x y, Q, st => condWp (ev st.env c) (awp cl x Q st) (awp cl y Q st)
  | .block id b, Q, st => awp cl b (blkK id Q) st
  | .loop b, Q, st => ∃ n, loopP (awp cl b) Q n st
  | .exit id, Q, st => Q (.exit id) st
  | .goto l, Q, st => Q (.goto l) st
  | .jump l x r, Q, st => awp cl x (jmpK l (fun st => ∃ n, jumpP l (awp cl r) Q n st) Q) st
  | .ret, Q, st => Q .ret st
structure Hint where
  own : List Nat
  rows : List Nat
  heap : List Nat
  glob : Nat → Option (List D)
def szOf (P : Program) (t : TypeId) : Option Nat := match P.info? t with | some i => some i.size | none => none
def aggOf (P : Program) (t : TypeId) : Option Bool := match P.underlying t with | some (.struct _) | some (.array _ _) => some true | some _ => some false | none => none
def constD : Value → Option D
  | .int k n => some (.int k n)
  | .bool b => some (.bool b)
  | .string s => some (.str s.data.toList)
  | .pointer none => some .nilp
  | .nilFunc => some .nilf
  | .nilIface => some .nili
  | _ => none
def constC : Value → Option C
  | .slice none 0 0 => some .nil
  | v => match constD v with | some d => some (.d d) | none => none
def constCs : List Value → Option (List C)
  | [] => some []
  | v :: r => match constC v, constCs r with | some c, some cs => some (c :: cs) | _, _ => none
def constCsA : List Value → Option (List C)
  | [] => some []
  | v :: r => match constCsA r with | some cs => some ((match constC v with | some c => c | none => .any) :: cs) | none => none
def constDs : List Value → Option (List D)
  | [] => some []
  | .slice none 0 0 :: r => match constDs r with | some cs => some (.list 0 [] :: cs) | _ => none
  | v :: r => match constD v, constDs r with | some c, some cs => some (c :: cs) | _, _ => none
def zeroOf (P : Program) (t : TypeId) : Option (List Value) := match P.info? t with | some i => (match i.zero with | some v => some v.cells.toList | none => none) | none => none
def trX (H : Hint) : Operand → Option Opd
  | .tmp t => some (.t t)
  | .const v => match constC v with | some c => some (.k (.c c)) | none => (match v with | .map none => some (.k (.c .any)) | _ => none)
  | .func f => some (.k (.c (.d (.fn f))))
  | .global g => match H.glob g with | some ds => some (.k (.c (.lptr ds 0))) | none => none
def trXs (H : Hint) : List Operand → Option (List Opd)
  | [] => some []
  | x :: r => match trX H x, trXs H r with | some y, some ys => some (y :: ys) | _, _ => none
def trO (H : Hint) : Option Operand → Option (Option Opd)
  | none => some none
  | some x => match trX H x with | some y => some (some y) | none => none
def trParts (P : Program) (H : Hint) (place : Nat → Option (Nat × Nat)) : List (Nat × Operand) → Option (List (Nat × Nat × Opd))
  | [] => some []
  | (i, x) :: r => match place i, trX H x, trParts P H place r with
    | some (o, s), some y, some ys => some ((o, s, y) :: ys)
    | _, _, _ => none
def trElems (H : Hint) : List (Nat × Operand) → Option (List (Nat × Opd))
  | [] => some []
  | (i, x) :: r => match trX H x, trElems H r with | some y, some ys => some ((i, y) :: ys) | _, _ => none
def fieldPlaces (P : Program) : List Field → Option (List (Nat × Nat))
  | [] => some []
  | f :: r => match szOf P f.type, fieldPlaces P r with | some s, some l => some ((f.offset, s) :: l) | _, _ => none
def isStr (P : Program) (t : TypeId) : Bool := match P.underlying t with | some .string => true | _ => false
def isU8 (P : Program) (t : TypeId) : Bool := match P.underlying t with | some (.int .u8) => true | _ => false
def isSl (P : Program) (t : TypeId) : Option TypeId := match P.underlying t with | some (.slice e) => some e | _ => none
def plainCmp (P : Program) (op : BinOp) (t : TypeId) : Option (Option Bool) :=
  match op with
  | .eql | .neq => (match P.underlying t with
    | some (.int _) | some .string => some none
    | some .bool => some (some (match op with | .neq => true | _ => false))
    | _ => none)
  | _ => some none
def kindsF (P : Program) (k : TypeId → Option (List Nat)) : Nat → List Field → Option (List Nat)
  | _, [] => some []
  | off, f :: r => if f.name ≠ "_" ∧ f.offset = off then (match k f.type, szOf P f.type with
    | some ks, some s => if ks.length = s then (match kindsF P k (off + s) r with | some l => some (ks ++ l) | none => none) else none
    | _, _ => none) else none
def kinds (P : Program) : Nat → TypeId → Option (List Nat)
  | 0, _ => none
  | d + 1, t => match P.underlying t with
    | some (.int _) => some [0]
    | some .string => some [1]
    | some .bool => some [2]
    | some (.struct fs) => if P.stoodInHeld t then none else kindsF P (kinds P d) 0 fs.toList
    | some (.array n e) => (match kinds P d e, szOf P e with
      | some ks, some s => if ks.length = s then some (repl n ks).flatten else none
      | _, _ => none)
    | _ => none
def keyKs (P : Program) (t : TypeId) : Option (Bool × List Nat) :=
  match P.underlying t with
  | some (.map k _) => (match kinds P 10 k, aggOf P k with | some ks, some w => some (w, ks) | _, _ => none)
  | _ => none
def aggCmp (P : Program) (op : BinOp) (t : TypeId) : Option (Bool × List Nat) :=
  match op with
  | .eql | .neq => (match aggOf P t, kinds P 10 t with
    | some true, some ks => if P.eqGuardType P.depth t then none else some ((match op with | .neq => true | _ => false), ks)
    | _, _ => none)
  | _ => none
def zeroEl (P : Program) (t : TypeId) : Option C :=
  match P.underlying t with
  | some (.map _ e) => (match P.info? e with | some i => (match i.zero with | some v => constC v | none => none) | none => none)
  | _ => none
def appOk (i : TypeInfo) : Bool := decide (0 < i.size) && decide (i.bytes ≤ 65536) && (match i.zero with | some v => v.cells.size == i.size | none => false)
def nilCmp (P : Program) (op : BinOp) (t : TypeId) (y : Operand) : Option Bool :=
  match isSl P t, y with
  | some _, .const (.slice none 0 0) => (match op with | .eql => some false | .neq => some true | _ => none)
  | _, _ => none
def trOp1 (P : Program) (H : Hint) (o : Oper) : Option AOp :=
  match o.op with
  | .move x => match trX H x with | some y => some (.move y) | none => none
  | .assign x => match trX H x with
    | some y => (match x, o.dst with
      | .const (.slice none 0 0), some d => if H.rows.contains d then (match isSl P o.type with | some e => (match szOf P e with | some s => if 0 < s then some (.newRow s) else none | none => none) | none => none) else some (.move y)
      | _, _ => some (.move y))
    | none => none
  | .pick c a b => match trX H c, trX H a, trX H b with | some x, some y, some z => some (.pick x y z) | _, _, _ => none
  | .alloc t => match zeroOf P t with | some vs => (match constCs vs with | some cs => some (.alloc cs) | none => none) | none => none
  | .box _ x => match trX H x with | some y => some (.box y) | none => none
  | .build t ps => match zeroOf P t with
    | some vs => (match constCsA vs with
      | some cs => (match P.underlying t with
        | some (.struct fs) => (match fieldPlaces P fs.toList with
          | some pl => (match trParts P H (fun i => pl[i]?) ps.toList with | some l => some (.build cs l) | none => none)
          | none => none)
        | some (.array _ e) => (match szOf P e with
          | some s => (match trParts P H (fun i => some (i * s, s)) ps.toList with | some l => some (.build cs l) | none => none)
          | none => none)
        | _ => none)
      | none => none)
    | none => none
  | .buildSlice t n ps => match isSl P t with
    | some e => (match szOf P e, zeroOf P e with
      | some s, some vs => if 0 < s ∧ n * s ≤ 16777216 ∧ vs.length = s then (match constDs vs, trElems H ps.toList with
        | some z, some l => some (match o.dst with | some d => if H.rows.contains d then .litX s n z l else .lit s n z l (H.own.contains d) | none => .lit s n z l false)
        | _, _ => none) else none
      | _, _ => none)
    | none => none
  | .load t x => match trX H x, szOf P t, aggOf P t with
    | some y, some s, some a => if a = true ∨ s = 1 then some (.load y s a) else none
    | _, _, _ => none
  | .store t x v => match trX H x, trX H v, szOf P t with | some y, some z, some s => some (.store y z s) | _, _, _ => none
  | .nilCheck x => match trX H x with | some y => some (.nilCheck y) | none => none
  | .binOp op t x y _ => match trX H x, trX H y with
    | some a, some b => (match plainCmp P op t with
      | some none => some (.bin op a b)
      | some (some neg) => some (.beq neg a b)
      | none => (match aggCmp P op t with
        | some (neg, ks) => some (.eqA neg ks a b)
        | none => (match nilCmp P op t y with | some neg => some (.isNil neg a) | none => none)))
    | _, _ => none
  | .unOp .not _ x => match trX H x with | some y => some (.not y) | none => none
  | .convert s t x => match trX H x with
    | some y => (match P.underlying t with
      | some (.int k) => if isStr P s then none else (match P.underlying s with | some (.int _) => some (.toInt k y) | _ => none)
      | some .string => (match P.underlying s with
        | some (.slice e) => if isU8 P e then some (.b2s y) else none
        | some .string => some (.s2s y)
        | some (.int _) => some (.r2s y)
        | _ => none)
      | some (.slice e) => (match P.underlying s with
        | some (.slice _) => if s = t ∧ isU8 P e = true then some (.b2b y) else none
        | some .string => if isU8 P e then some (.s2b y (match o.dst with | some d => H.own.contains d | none => false)) else none
        | _ => none)
      | _ => none)
    | none => none
  | .makeFunc (.func f) first caps => if first.size = 0 ∧ 0 < caps.size then (match trXs H caps.toList with | some l => some (.mkFunc f l) | none => none) else none
  | .slice t x lo hi mx => match trX H x, trO H lo, trO H hi, trO H mx with
    | some y, some l, some h, some m => (match P.underlying t with
      | some .string => if m.isNone then some (.substr y l h) else none
      | some (.slice e) => (match szOf P e with | some s => if 0 < s then some (.slice s y l h m) else none | none => none)
      | _ => none)
    | _, _, _, _ => none
  | .fieldAddr t x i => match P.underlying t with
    | some (.struct fs) => (match fs.toList[i]? with
      | some f => (match szOf P f.type, trX H x with | some s, some y => if s = 0 then none else some (.fieldAddr y f.offset) | _, _ => none)
      | none => none)
    | _ => none
  | .field t x i => match P.underlying t with
    | some (.struct fs) => (match fs.toList[i]? with
      | some f => (match szOf P f.type, aggOf P f.type, trX H x with | some s, some a, some y => if a = true ∨ s = 1 then some (.field y f.offset s a) else none | _, _, _ => none)
      | none => none)
    | _ => none
  | .indexAddr t x i => match trX H x, trX H i with
    | some y, some j => (match P.underlying t with
      | some (.slice e) => (match szOf P e with | some s => if 0 < s then some (.idxAddr s y j) else none | none => none)
      | some (.array n e) => (match szOf P e with | some s => some (.arrAddr y j s n) | none => none)
      | _ => none)
    | _, _ => none
  | .index t x i => match trX H x, trX H i with
    | some y, some j => (match P.underlying t with
      | some .string => some (.strAt y j)
      | some (.array n e) => (match szOf P e, aggOf P e with | some s, some a => if a = true ∨ s = 1 then some (.index y j s n a) else none | _, _ => none)
      | _ => none)
    | _, _ => none
  | .extract x i => match trX H x with | some y => some (.extract y i) | none => none
  | .range t x => match trX H x with | some y => if isStr P t then some (.range y) else none | none => none
  | .next x true => match trX H x with | some y => some (.next y) | none => none
  | .makeMap t none => (match P.underlying t with | some (.map _ _) => some .makeMap | _ => none)
  | .mapUpdate t m k x | .insert t m k x => match trX H m, trX H k, trX H x with
    | some m', some k', some x' => (match keyKs P t with | some (w, ks) => some (.mapSet w ks m' k' x') | none => none)
    | _, _, _ => none
  | .lookup t m k ok => match trX H m, trX H k, keyKs P t, zeroEl P t with
    | some m', some k', some (w, ks), some z => some (.mapGet w ks m' k' z ok)
    | _, _, _, _ => none
  | .call c => match trXs H c.args.toList with
    | some l => (match c.callee with
      | .value (.func f) => some (if H.heap.contains f then .hcall f l else .pcall f l)
      | .value x => (match trX H x with | some y => some (.vcall y l) | none => none)
      | .builtin .len => (match l, c.argTypes.toList with
        | [y], [t] => (match P.underlying t with
          | some .string => some (.lenStr y)
          | some (.slice _) => some (.len y)
          | some (.array n _) => some (.lenArr n)
          | _ => none)
        | _, _ => none)
      | .builtin .min => (match l with | [a, b] => some (.min a b) | _ => none)
      | .builtin .max => (match l with | [a, b] => some (.max a b) | _ => none)
      | .builtin .append => (match l, c.argTypes.toList with
        | [a, b], [t, u] => if t = u then (match isSl P t with
            | some e => (match P.info? e with | some i => if appOk i = true then some (.append a b i.size) else none | none => none)
            | none => none) else none
        | _, _ => none)
      | _ => none)
    | none => none
  | _ => none
def trOp (P : Program) (H : Hint) (o : Oper) : Option AOp := match trOp1 P H o with | some x => some x | none => some .stuck
def guardOf (ops : List Oper) : Option (Nat × Bool) → Option (Option (Nat × Bool))
  | none => some none
  | some (j, want) => match ops[j]? with
    | some o => (match o.dst with | some t => some (some (t, want)) | none => none)
    | none => none
def dstOk (N : Nat) : Option Nat → Bool
  | some d => d < N
  | none => true
def trOps (P : Program) (H : Hint) (N : Nat) (all : List Oper) : List Oper → Option (List AOper)
  | [] => some []
  | o :: r => if dstOk N o.dst then (match trOp P H o, guardOf all o.guard, trOps P H N all r with
    | some p, some g, some l => some (⟨o.dst, p, g⟩ :: l)
    | _, _, _ => none) else none
def need (o : Oper) : Nat := o.after.toList.foldl (fun m e => if Region.binds .any e then m ||| 2 ^ e.on else m) 0
def takeReady (done : Nat) : List (Nat × Nat) → Option (Nat × List (Nat × Nat))
  | [] => none
  | (i, m) :: r => if m &&& done = m then some (i, r) else match takeReady done r with | some (k, r') => some (k, (i, m) :: r') | none => none
def permGo : Nat → Nat → List (Nat × Nat) → List Nat
  | 0, _, _ => []
  | n + 1, done, l => match takeReady done l with | some (i, r) => i :: permGo n (done ||| 2 ^ i) r | none => []
def needsGo : Nat → List Oper → List (Nat × Nat)
  | _, [] => []
  | i, o :: r => (i, need o) :: needsGo (i + 1) r
def perm (ops : List Oper) : List Nat := permGo ops.length 0 (needsGo 0 ops)
def permOps (ops : List Oper) (π : List Nat) : List Oper := π.filterMap (ops[·]?)
def maskOf (m : Nat) : List (Nat × Nat) → Nat → Nat → Nat
  | [], _, acc => acc
  | (i, b) :: r, j, acc => maskOf m r (j - 1) (if m.testBit i then acc ||| b ||| 2 ^ (j - 1) else acc)
def befGo : List (Nat × Nat) → Nat → List (Nat × Oper) → List Nat
  | _, _, [] => []
  | done, j, (i, o) :: r => maskOf (need o) done j 0 :: befGo ((i, maskOf (need o) done j 0) :: done) (j + 1) r
def befs (ops : List Oper) (π : List Nat) : List Nat := befGo [] 0 (π.filterMap fun i => (ops[i]?).map fun o => (i, o))
def orderOk : Nat → List (Nat × Oper) → Bool
  | _, [] => true
  | done, (i, o) :: r => need o &&& done == need o && orderOk (done ||| 2 ^ i) r
def nodupB : List Nat → Bool
  | [] => true
  | a :: r => !r.contains a && nodupB r
def pairsOf (ops : List Oper) (π : List Nat) : List (Nat × Oper) := π.filterMap fun i => (ops[i]?).map fun o => (i, o)
def permOk (n : Nat) (π : List Nat) : Bool := π.length == n && π.all (fun i => decide (i < n)) && nodupB π && (List.range n).all fun i => π.contains i
def drawOk (ops : List Oper) (π : List Nat) : Bool := permOk ops.length π && orderOk 0 (pairsOf ops π)
def Opd.tmps : Opd → List Nat
  | .t n => [n]
  | .k _ => []
def opdsTmps : List Opd → List Nat
  | [] => []
  | x :: r => x.tmps ++ opdsTmps r
def AOp.opds : AOp → List Opd
  | .move x | .box x | .not x | .toInt _ x | .b2s x | .s2s x | .r2s x | .isNil _ x | .b2b x | .range x | .next x | .s2b x _ | .load x _ _ | .fieldAddr x _ | .field x _ _ _ | .extract x _ | .len x | .lenStr x | .nilCheck x => [x]
  | .pick c a b => [c, a, b]
  | .alloc _ | .newRow _ | .lenArr _ | .makeMap | .stuck => []
  | .mapSet _ _ m k x => [m, k, x]
  | .mapGet _ _ m k _ _ => [m, k]
  | .build _ ps => ps.map (·.2.2)
  | .lit _ _ _ ps _ | .litX _ _ _ ps => ps.map (·.2)
  | .store x y _ | .bin _ x y | .beq _ x y | .eqA _ _ x y | .idxAddr _ x y | .arrAddr x y _ _ | .index x y _ _ _ | .strAt x y | .min x y | .max x y | .append x y _ => [x, y]
  | .slice _ x lo hi mx => x :: (lo.toList ++ hi.toList ++ mx.toList)
  | .substr x lo hi => x :: (lo.toList ++ hi.toList)
  | .mkFunc _ l | .pcall _ l | .hcall _ l => l
  | .vcall f l => f :: l
def AOper.sees (o : AOper) : List Nat := (match o.guard with | some (g, _) => [g] | none => []) ++ opdsTmps o.op.opds
structure Info where
  i : Nat
  d : Option Nat
  sees : List Nat
  b : Nat
def infoGo : Nat → List AOper → List Nat → List Info
  | j, o :: r, b :: bs => ⟨j, o.dst, o.sees, b⟩ :: infoGo (j + 1) r bs
  | _, _, _ => []
def apartOk (l : List Info) : Bool :=
  l.all fun x => match x.d with
    | none => true
    | some d => l.all fun y => y.i == x.i || (y.d != some d && (!(y.sees.contains d) || y.b.testBit x.i || x.b.testBit y.i))
def labelsOf : Code → List Nat
  | .seq a b => labelsOf a ++ labelsOf b
  | .label l => [l]
  | _ => []
mutual
def trC (P : Program) (H : Hint) (N : Nat) : Code → Option ACode
  | .skip => some .skip
  | .region _ ops false => match trOps P H N ops.toList ops.toList with | some l => some (.region l) | none => none
  | .region _ ops true => if drawOk ops.toList (perm ops.toList) then (match trOps P H N ops.toList (permOps ops.toList (perm ops.toList)) with
      | some l => if apartOk (infoGo 0 l (befs ops.toList (perm ops.toList))) then some (.dregion l (befs ops.toList (perm ops.toList))) else none
      | none => none) else none
  | .seq a b => match trC P H N a, trC P H N b with | some x, some y => some (.seq x y) | _, _ => none
  | .cond c a b => match trX H c, trC P H N a, trC P H N b with | some o, some x, some y => some (.cond o x y) | _, _, _ => none
  | .block id b => match trC P H N b with | some x => some (.block id x) | none => none
  | .loop b => match trC P H N b with | some x => some (.loop x) | none => none
  | .exit id => some (.exit id)
  | .ret => some .ret
  | .label _ => some .skip
  | .goto l => some (.goto l)
  | .scope c => match labelsOf c with
    | [l] => (match trC P H N c, trRest P H N l c with | some x, some y => some (.jump l x y) | _, _ => none)
    | _ => none
  | _ => none
def trRest (P : Program) (H : Hint) (N : Nat) (l : Nat) : Code → Option ACode
  | .seq a b => match trRest P H N l a with
    | some x => (match trC P H N b with | some y => some (.seq x y) | none => none)
    | none => if (findLabel a l).isNone then trRest P H N l b else none
  | .label l' => if l' == l then some .skip else none
  | _ => none
end
section
variable {cl : Call} {op : AOp} {d : Nat} {r : List AOper} {K : St → Prop} {env : Env} {nx nx' : Nat} {ob ob' : List (Nat × Ob)} {v : V} {Q : Exit → St → Prop}
theorem Le.refl (st : St) : Le st st := ⟨fun _ => .inl rfl, fun _ _ h => h, Nat.le_refl _⟩
theorem Zg {K : St → Prop} {st : St} (h : K st) : weak K st := ⟨st, Le.refl st, h⟩
theorem getV_keep (ts : List Nat) (e : Env) (t : Nat) : getV (keep ts e) t = getV e t ∨ getV (keep ts e) t = .c .any := by
  induction ts with
  | nil => exact .inr rfl
  | cons a r ih =>
    show (if a = t then getV e a else getV (keep r e) t) = getV e t ∨ (if a = t then getV e a else getV (keep r e) t) = .c .any
    by_cases h : a = t
    · rw [if_pos h, h]; exact .inl rfl
    · rw [if_neg h]; exact ih
theorem weak_keep {K : St → Prop} {hp : Hp} (ts : List Nat) {env' : Env} (he : keep ts env = env') (h : K ⟨env', hp⟩) : weak K ⟨env, hp⟩ :=
  ⟨⟨env', hp⟩, ⟨fun t => by rw [← he]; exact getV_keep ts env t, fun _ _ h => h, Nat.le_refl _⟩, h⟩
theorem weak_drop {K : St → Prop} (ts : List Nat) {env' : Env} (he : keep ts env = env') (hsub : ∀ y o, look ob' y = some o → look ob y = some o) (hn : nx ≤ nx') (h : K ⟨env', ⟨nx', ob'⟩⟩) : weak K ⟨env, ⟨nx, ob⟩⟩ :=
  ⟨⟨env', ⟨nx', ob'⟩⟩, ⟨fun t => by rw [← he]; exact getV_keep ts env t, hsub, hn⟩, h⟩
theorem Za {a b : ACode} {st : St} (h : awp cl a (seqK (weak (awp cl b Q)) Q) st) : awp cl (.seq a b) Q st := h
theorem awp_loop {b : ACode} {st : St} (I : Nat → St → Prop) (n : Nat) (h0 : weak (I n) st) (hI0 : ∀ st, ¬ I 0 st)
    (round : ∀ (n : Nat) (K : St → Prop), (∀ st, weak (I n) st → K st) → ∀ st, I (n + 1) st → awp cl b (seqK K Q) st) : awp cl (.loop b) Q st := by
  have key : ∀ n st, weak (I n) st → loopP (awp cl b) Q n st := by
    intro n
    induction n with
    | zero => rintro st ⟨st', _, h⟩; exact (hI0 st' h).elim
    | succ n ih => rintro st ⟨st', hle, h⟩; exact ⟨st', hle, round n _ ih st' h⟩
  exact ⟨n, key n st h0⟩
theorem Zo {l : Nat} {st : St} (h : Q (.goto l) st) : awp cl (.goto l) Q st := h
theorem Zp {l : Nat} {K : St → Prop} {st : St} (h : Q .normal st) : jmpK l K Q .normal st := h
theorem Zq {l : Nat} {K : St → Prop} {st : St} (h : Q .ret st) : jmpK l K Q .ret st := h
theorem Zr {l i : Nat} {K : St → Prop} {st : St} (h : Q (.exit i) st) : jmpK l K Q (.exit i) st := h
theorem Zs {l : Nat} {K : St → Prop} {st : St} (h : K st) : jmpK l K Q (.goto l) st := ⟨rfl, h⟩
theorem Zt {K : St → Prop} {st : St} {i : Nat} (h : Q (.goto i) st) : seqK K Q (.goto i) st := h
theorem Zu {id i : Nat} {st : St} (h : Q (.goto i) st) : blkK id Q (.goto i) st := h
theorem awp_jump {l : Nat} {x r : ACode} {st : St} (I : Nat → St → Prop) (hI0 : ∀ st, ¬ I 0 st)
    (first : ∀ K : St → Prop, (∀ n st, weak (I n) st → K st) → awp cl x (jmpK l K Q) st)
    (round : ∀ (n : Nat) (K : St → Prop), (∀ st, weak (I n) st → K st) → ∀ st, I (n + 1) st → awp cl r (jmpK l K Q) st) : awp cl (.jump l x r) Q st := by
  have key : ∀ n st, weak (I n) st → jumpP l (awp cl r) Q n st := by
    intro n
    induction n with
    | zero => rintro st ⟨st', _, h⟩; exact (hI0 st' h).elim
    | succ n ih => rintro st ⟨st', hle, h⟩; exact ⟨st', hle, round n _ ih st' h⟩
  exact first _ (fun n st h => ⟨n, key n st h⟩)
theorem Zb {ops : List AOper} {st : St} (h : opsWp cl ops (Q .normal) st) : awp cl (.region ops) Q st := h
theorem Zi {st : St} (h : Q .normal st) : awp cl .skip Q st := h
theorem Zh {st : St} (h : Q .ret st) : awp cl .ret Q st := h
theorem Zj {id : Nat} {st : St} (h : Q (.exit id) st) : awp cl (.exit id) Q st := h
theorem Zk {id : Nat} {b : ACode} {st : St} (h : awp cl b (blkK id Q) st) : awp cl (.block id b) Q st := h
theorem Zc {st : St} (h : K st) : opsWp cl [] K st := h
theorem Zd {K : St → Prop} {st : St} (h : K st) : seqK K Q .normal st := h
theorem Ze {K : St → Prop} {st : St} (h : Q .ret st) : seqK K Q .ret st := h
theorem Zf {K : St → Prop} {st : St} {i : Nat} (h : Q (.exit i) st) : seqK K Q (.exit i) st := h
theorem Zl {id : Nat} {st : St} (h : Q .normal st) : blkK id Q .normal st := h
theorem Zm {id : Nat} {st : St} (h : Q .ret st) : blkK id Q .ret st := h
theorem Zn {id : Nat} {st : St} (h : Q .normal st) : blkK id Q (.exit id) st := by simp only [blkK, if_pos]; exact h
theorem Zv {id i : Nat} {st : St} (hi : i ≠ id) (h : Q (.exit i) st) : blkK id Q (.exit i) st := by simp only [blkK, if_neg hi]; exact h
theorem awp_cond {c : Opd} {x y : ACode} {b : Bool} {hp : Hp} (hc : ev env c = .c (.d (.bool b))) (h1 : b = true → awp cl x Q ⟨env, hp⟩) (h2 : b = false → awp cl y Q ⟨env, hp⟩) : awp cl (.cond c x y) Q ⟨env, hp⟩ := by
  simp only [awp, hc, condWp]
  exact ⟨h1, h2⟩
theorem Zz {c : Opd} {x y : ACode} {hp : Hp} (hc : ev env c = .c (.d (.bool true))) (h1 : awp cl x Q ⟨env, hp⟩) : awp cl (.cond c x y) Q ⟨env, hp⟩ :=
  awp_cond hc (fun _ => h1) (fun h => nomatch h)
theorem ZA {c : Opd} {x y : ACode} {hp : Hp} (hc : ev env c = .c (.d (.bool false))) (h1 : awp cl y Q ⟨env, hp⟩) : awp cl (.cond c x y) Q ⟨env, hp⟩ :=
  awp_cond hc (fun h => nomatch h) (fun _ => h1)
theorem step_eq {dst : Option Nat} {st : St} {w : V} {h : Hp} (hv : eval cl st.env st.hp op = some (w, h)) (hk : opsWp cl r K (st.put dst w h)) : opsWp cl (⟨dst, op, none⟩ :: r) K st := by
  simp only [opsWp, wanted, if_true]
  cases op <;> simp only [opWp] <;> first
    | (rw [hv]; exact hk)
    | (simp only [eval] at hv; cases hv)
theorem ZB (hv : eval cl env ⟨nx, ob⟩ op = some (v, ⟨nx', ob'⟩)) (hk : opsWp cl r K ⟨(d, v) :: env, ⟨nx', ob'⟩⟩) : opsWp cl (⟨some d, op, none⟩ :: r) K ⟨env, ⟨nx, ob⟩⟩ :=
  step_eq hv hk
theorem ZC (hv : eval cl env ⟨nx, ob⟩ op = some (v, ⟨nx', ob'⟩)) (hk : opsWp cl r K ⟨env, ⟨nx', ob'⟩⟩) : opsWp cl (⟨none, op, none⟩ :: r) K ⟨env, ⟨nx, ob⟩⟩ :=
  step_eq hv hk
theorem wanted_of {g : Nat} {b b' : Bool} {dst : Option Nat} {st : St} (hg : getV st.env g = .c (.d (.bool b)))
    (h1 : b = b' → opsWp cl (⟨dst, op, none⟩ :: r) K st) (h2 : b ≠ b' → opsWp cl r K (st.put dst (.tup []) st.hp)) : opsWp cl (⟨dst, op, some (g, b')⟩ :: r) K st := by
  simp only [opsWp, wanted, hg]
  exact ⟨fun hb => by simpa [opsWp, wanted] using h1 hb, fun hb => by simpa using h2 hb⟩
theorem Zw {g : Nat} {b : Bool} {dst : Option Nat} {st : St} (hg : getV st.env g = .c (.d (.bool b))) (h : opsWp cl (⟨dst, op, none⟩ :: r) K st) : opsWp cl (⟨dst, op, some (g, b)⟩ :: r) K st :=
  wanted_of hg (fun _ => h) (fun hb => (hb rfl).elim)
theorem Zx {g : Nat} {b b' : Bool} {hp : Hp} (hg : getV env g = .c (.d (.bool b))) (hb : b ≠ b') (h : opsWp cl r K ⟨(d, .tup []) :: env, hp⟩) : opsWp cl (⟨some d, op, some (g, b')⟩ :: r) K ⟨env, hp⟩ := by
  simp only [opsWp, wanted, hg]
  exact ⟨fun h => (hb h).elim, fun _ => by simpa [St.put] using h⟩
theorem Zy {g : Nat} {b' : Bool} {hp : Hp} (hg : getV env g = .tup []) (h : opsWp cl r K ⟨(d, .tup []) :: env, hp⟩) : opsWp cl (⟨some d, op, some (g, b')⟩ :: r) K ⟨env, hp⟩ := by
  simp only [opsWp, wanted, hg]
  simpa [St.put] using h
theorem ZS {ops : List AOper} {bef : List Nat} {st : St} (h : dopsWp cl [] 0 bef ops (Q .normal) st) : awp cl (.dregion ops bef) Q st := h
theorem ZT {past : List (Nat × Ent)} {j : Nat} {bs : List Nat} {st : St} (h : K st) : dopsWp cl past j bs [] K st := h
theorem ZX {past : List (Nat × Ent)} {j b : Nat} {bs : List Nat} {hp : Hp} (hi : op.indep = true) (hv : eval cl env hp op = some (v, hp)) (hk : dopsWp cl past (j + 1) bs r K ⟨(d, v) :: env, hp⟩) :
    dopsWp cl past j (b :: bs) (⟨some d, op, none⟩ :: r) K ⟨env, hp⟩ := by
  unfold dopsWp wanted
  simp only [if_true]
  exact .inl ⟨hi, v, hv, hk⟩
theorem ZY {past : List (Nat × Ent)} {j b : Nat} {bs : List Nat} {hp : Hp} (hv : eval cl env hp op = some (v, hp)) (hp' : pastOk cl b ⟨op, env, hp, v, hp, false⟩ past)
    (hk : dopsWp cl ((j, ⟨op, env, hp, v, hp, false⟩) :: past) (j + 1) bs r K ⟨(d, v) :: env, hp⟩) : dopsWp cl past j (b :: bs) (⟨some d, op, none⟩ :: r) K ⟨env, hp⟩ := by
  unfold dopsWp wanted
  simp only [if_true]
  exact .inr (.inl ⟨v, hv, hp', hk⟩)
theorem ZZ {past : List (Nat × Ent)} {j b : Nat} {bs : List Nat} {hp hp2 : Hp} {dst : Option Nat} (hv : evalR cl env hp op v hp2) (hp' : pastOk cl b ⟨op, env, hp, v, hp2, true⟩ past)
    (hk : dopsWp cl ((j, ⟨op, env, hp, v, hp2, true⟩) :: past) (j + 1) bs r K (St.put ⟨env, hp⟩ dst v hp2)) : dopsWp cl past j (b :: bs) (⟨dst, op, none⟩ :: r) K ⟨env, hp⟩ := by
  unfold dopsWp wanted
  simp only [if_true]
  exact .inr (.inr ⟨v, hp2, hv, hp', hk⟩)
theorem ZU {past : List (Nat × Ent)} {j : Nat} {bs : List Nat} {g : Nat} {b : Bool} {dst : Option Nat} {st : St} (hg : getV st.env g = .c (.d (.bool b))) (h : dopsWp cl past j bs (⟨dst, op, none⟩ :: r) K st) :
    dopsWp cl past j bs (⟨dst, op, some (g, b)⟩ :: r) K st := by
  unfold dopsWp at h ⊢
  simp only [wanted, hg]
  exact ⟨fun _ => by simpa [wanted] using h, fun hb => by simp at hb⟩
theorem ZV {past : List (Nat × Ent)} {j b0 : Nat} {bs : List Nat} {g : Nat} {b b' : Bool} {hp : Hp} (hg : getV env g = .c (.d (.bool b))) (hb : b ≠ b') (h : dopsWp cl past (j + 1) bs r K ⟨(d, .tup []) :: env, hp⟩) :
    dopsWp cl past j (b0 :: bs) (⟨some d, op, some (g, b')⟩ :: r) K ⟨env, hp⟩ := by
  unfold dopsWp
  simp only [wanted, hg]
  exact ⟨fun h => (hb h).elim, fun _ => by simpa [St.put] using h⟩
theorem ZW {past : List (Nat × Ent)} {j b0 : Nat} {bs : List Nat} {g : Nat} {b' : Bool} {hp : Hp} (hg : getV env g = .tup []) (h : dopsWp cl past (j + 1) bs r K ⟨(d, .tup []) :: env, hp⟩) :
    dopsWp cl past j (b0 :: bs) (⟨some d, op, some (g, b')⟩ :: r) K ⟨env, hp⟩ := by
  unfold dopsWp
  simp only [wanted, hg]
  simpa [St.put] using h
theorem step_vcall {f : Opd} {args : List Opd} {hp : Hp} (hk : vcallWp cl (ev env f) (evs env args) hp (fun v h => opsWp cl r K ⟨(d, v) :: env, h⟩)) : opsWp cl (⟨some d, .vcall f args, none⟩ :: r) K ⟨env, hp⟩ := by
  simp only [opsWp, wanted, if_true, opWp]
  exact hk
theorem step_hcall {f : Nat} {args : List Opd} {hp : Hp} {T : List V → Hp → (V → Hp → Prop) → Prop} (hT : cl.heap f = some T) (hk : T (evs env args) hp (fun v h => opsWp cl r K ⟨(d, v) :: env, h⟩)) : opsWp cl (⟨some d, .hcall f args, none⟩ :: r) K ⟨env, hp⟩ := by
  simp only [opsWp, wanted, if_true, opWp, hT]
  exact hk
end
section
variable {cl : Call} {e : Env} {h : Hp} {nx : Nat} {ob : List (Nat × Ob)}
theorem wrap64 {n : Int} (h0 : -9223372036854775808 ≤ n) (h1 : n ≤ 9223372036854775807) : IntKind.wrap .i64 n = n := by
  unfold IntKind.wrap
  have hs : IntKind.signed .i64 = true := rfl
  have hb : IntKind.bits .i64 = 64 := rfl
  simp only [hs, hb, Bool.true_and, decide_eq_true_eq]
  split <;> omega
theorem ev_idx {sz sz' : Nat} {l : List (List D)} {el : List D} {x y : Opd} {k : IntKind} {i : Int} (hx : ev e x = .c (.d (.list sz' l))) (hy : ev e y = .c (.d (.int k i))) (h0 : 0 ≤ i) (hg : l[i.toNat]? = some el) (hs : el.length = sz) :
    eval cl e h (.idxAddr sz x y) = some (.c (.lptr el 0), h) := by
  simp only [eval, hx, hy, asInt, C.lst, C.toD, if_pos h0, hg, if_pos hs]
theorem ev_add {x y : Opd} {a b : Int} (hx : ev e x = .c (.d (.int .i64 a))) (hy : ev e y = .c (.d (.int .i64 b))) (h0 : -9223372036854775808 ≤ a + b) (h1 : a + b ≤ 9223372036854775807) :
    eval cl e h (.bin .add x y) = some (.c (.d (.int .i64 (a + b))), h) := by
  simp only [eval, hx, hy, binV, binD, isShift, binInt, wrap64 h0 h1]
  rfl
theorem ev_sub {x y : Opd} {a b : Int} (hx : ev e x = .c (.d (.int .i64 a))) (hy : ev e y = .c (.d (.int .i64 b))) (h0 : -9223372036854775808 ≤ a - b) (h1 : a - b ≤ 9223372036854775807) :
    eval cl e h (.bin .sub x y) = some (.c (.d (.int .i64 (a - b))), h) := by
  simp only [eval, hx, hy, binV, binD, isShift, binInt, wrap64 h0 h1]
  rfl
theorem ev_cmp {op : BinOp} {x y : Opd} {k : IntKind} {a b : Int} {r : Bool} (hx : ev e x = .c (.d (.int k a))) (hy : ev e y = .c (.d (.int k b))) (hr : binInt op k a b = some (.bool r)) (hs : isShift op = false) : eval cl e h (.bin op x y) = some (.c (.d (.bool r)), h) := by
  simp only [eval, hx, hy, binV, binD, hs, hr]
  rfl
theorem ev_geq_t {x y : Opd} {k : IntKind} {a b : Int} (hx : ev e x = .c (.d (.int k a))) (hy : ev e y = .c (.d (.int k b))) (hr : b ≤ a) : eval cl e h (.bin .geq x y) = some (.c (.d (.bool true)), h) := ev_cmp hx hy (by simp [binInt, hr]) rfl
theorem ev_geq_f {x y : Opd} {k : IntKind} {a b : Int} (hx : ev e x = .c (.d (.int k a))) (hy : ev e y = .c (.d (.int k b))) (hr : a < b) : eval cl e h (.bin .geq x y) = some (.c (.d (.bool false)), h) := ev_cmp hx hy (by simp [binInt]; omega) rfl
theorem ev_gtr_t {x y : Opd} {k : IntKind} {a b : Int} (hx : ev e x = .c (.d (.int k a))) (hy : ev e y = .c (.d (.int k b))) (hr : b < a) : eval cl e h (.bin .gtr x y) = some (.c (.d (.bool true)), h) := ev_cmp hx hy (by simp [binInt]; omega) rfl
theorem ev_gtr_f {x y : Opd} {k : IntKind} {a b : Int} (hx : ev e x = .c (.d (.int k a))) (hy : ev e y = .c (.d (.int k b))) (hr : a ≤ b) : eval cl e h (.bin .gtr x y) = some (.c (.d (.bool false)), h) := ev_cmp hx hy (by simp [binInt]; omega) rfl
theorem ev_lss_t {x y : Opd} {k : IntKind} {a b : Int} (hx : ev e x = .c (.d (.int k a))) (hy : ev e y = .c (.d (.int k b))) (hr : a < b) : eval cl e h (.bin .lss x y) = some (.c (.d (.bool true)), h) := ev_cmp hx hy (by simp [binInt]; omega) rfl
theorem ev_lss_f {x y : Opd} {k : IntKind} {a b : Int} (hx : ev e x = .c (.d (.int k a))) (hy : ev e y = .c (.d (.int k b))) (hr : b ≤ a) : eval cl e h (.bin .lss x y) = some (.c (.d (.bool false)), h) := ev_cmp hx hy (by simp [binInt]; omega) rfl
theorem ev_eql_t {x y : Opd} {k : IntKind} {a b : Int} (hx : ev e x = .c (.d (.int k a))) (hy : ev e y = .c (.d (.int k b))) (hr : a = b) : eval cl e h (.bin .eql x y) = some (.c (.d (.bool true)), h) := ev_cmp hx hy (by simp [binInt, hr]) rfl
theorem ev_eql_f {x y : Opd} {k : IntKind} {a b : Int} (hx : ev e x = .c (.d (.int k a))) (hy : ev e y = .c (.d (.int k b))) (hr : a ≠ b) : eval cl e h (.bin .eql x y) = some (.c (.d (.bool false)), h) := ev_cmp hx hy (by simp [binInt, hr]) rfl
theorem ev_neq_t {x y : Opd} {k : IntKind} {a b : Int} (hx : ev e x = .c (.d (.int k a))) (hy : ev e y = .c (.d (.int k b))) (hr : a ≠ b) : eval cl e h (.bin .neq x y) = some (.c (.d (.bool true)), h) := ev_cmp hx hy (by simp [binInt, hr]) rfl
theorem ev_neq_f {x y : Opd} {k : IntKind} {a b : Int} (hx : ev e x = .c (.d (.int k a))) (hy : ev e y = .c (.d (.int k b))) (hr : a = b) : eval cl e h (.bin .neq x y) = some (.c (.d (.bool false)), h) := ev_cmp hx hy (by simp [binInt, hr]) rfl
theorem ev_pcall {f : Nat} {args : List Opd} {G : List DV → Option DV} {ds : List DV} {r : DV} {v : V} {ob' : List (Nat × Ob)} (hf : cl.pure f = some G) (hd : toDVs ⟨nx, ob⟩ (evs e args) = some ds) (hr : G ds = some r) (hv : r.toV = some v)
    (hs : (match r.flat with | true => ob | false => shedVs ob (evs e args)) = ob') : eval cl e ⟨nx, ob⟩ (.pcall f args) = some (v, ⟨nx, ob'⟩) := by
  simp only [eval, hf, hd, hr, hv]
  rw [← hs]
  cases r.flat <;> rfl
theorem vcall_pure {g : Nat} {args : List V} {K : V → Hp → Prop} {G : List DV → Option DV} {ds : List DV} {r : DV} {v : V} (hh : cl.heap g = none) (hp : cl.pure g = some G) (hd : toDVs h args = some ds) (hr : G ds = some r) (hv : r.toV = some v) (hf : r.flat = true)
    (hk : K v h) : vcallWp cl (.c (.d (.fn g))) args h K := by
  simp only [vcallWp, hh, hp, hd, opt, hr, hv, hf]
  exact hk
theorem look_hd {α : Type} {x : Nat} {o : α} {r : List (Nat × α)} : look ((x, o) :: r) x = some o := by simp [look]
theorem look_tl {α : Type} {x y : Nat} {o : α} {r : List (Nat × α)} {q : Option α} (h : x ≠ y) (hr : look r y = q) : look ((x, o) :: r) y = q := by simp [look, h, hr]
theorem put_hd {α : Type} {x : Nat} {o o' : α} {r : List (Nat × α)} : put ((x, o) :: r) x o' = some ((x, o') :: r) := by simp [put]
theorem put_tl {α : Type} {x y : Nat} {o o' : α} {r r' : List (Nat × α)} (h : x ≠ y) (hr : put r y o' = some r') : put ((x, o) :: r) y o' = some ((x, o) :: r') := by simp [put, h, hr]
theorem ev_load {x : Opd} {y off n : Nat} {agg : Bool} {cs : List C} {v : V} (hx : ev e x = .c (.ptr y off)) (hl : look ob y = some (.cells cs)) (hv : mkV agg (sub cs off n) = some v) : eval cl e ⟨nx, ob⟩ (.load x n agg) = some (v, ⟨nx, ob⟩) := by
  simp only [eval, hx, hl, hv]
theorem ev_store {x y : Opd} {z off n : Nat} {cs cs' vs : List C} {ob' : List (Nat × Ob)} (hv : (ev e y).cells = some vs) (hn : vs.length = n) (hx : ev e x = .c (.ptr z off)) (hl : look ob z = some (.cells cs)) (hs : splice cs off vs = some cs') (hp : put ob z (.cells cs') = some ob') :
    eval cl e ⟨nx, ob⟩ (.store x y n) = some (.tup [], ⟨nx, ob'⟩) := by
  simp only [eval, hv, hn, if_true, hx, hl, hs, hp]
theorem ev_next {x : Opd} {y pos c wd : Nat} {s : List UInt8} {ob' : List (Nat × Ob)} (hx : ev e x = .c (.iter y)) (hl : look ob y = some (.iter s pos)) (hlt : pos < s.length) (hd : Utf8.decode ⟨⟨s⟩⟩ pos = (c, wd)) (hp : put ob y (.iter s (pos + wd)) = some ob') :
    eval cl e ⟨nx, ob⟩ (.next x) = some (.tup [.c (.d (.bool true)), .c (.d (.int .i64 pos)), .c (.d (.int .i32 c))], ⟨nx, ob'⟩) := by
  simp only [eval, hx, hl, if_pos hlt, hd, hp]
theorem ev_over {x : Opd} {y pos : Nat} {s : List UInt8} (hx : ev e x = .c (.iter y)) (hl : look ob y = some (.iter s pos)) (hge : ¬ pos < s.length) :
    eval cl e ⟨nx, ob⟩ (.next x) = some (.tup [.c (.d (.bool false))], ⟨nx, ob⟩) := by
  simp only [eval, hx, hl, if_neg hge]
theorem ev_at {x i : Opd} {sz len k n : Nat} {agg : Bool} {cs : List C} {v : V} (hx : ev e x = .agg cs) (hi : asInt (ev e i) = some (k : Int)) (hk : k < len) (hv : mkV agg (sub cs (k * sz) sz) = some v) (_ : n = 0) :
    eval cl e h (.index x i sz len agg) = some (v, h) := by
  have h1 : (0 : Int) ≤ (k : Int) ∧ (k : Int) < (len : Int) := by omega
  simp only [eval, hi, if_pos h1, hx, Int.toNat_natCast, hv]
theorem decode_low {s : List UInt8} {pos : Nat} {b : UInt8} (hb : s[pos]? = some b) (hl : b.toNat < 128) : Utf8.decode ⟨⟨s⟩⟩ pos = (b.toNat, 1) := by
  obtain ⟨h1, h2⟩ := List.getElem?_eq_some_iff.1 hb
  have h1' : pos < (ByteArray.mk ⟨s⟩).size := h1
  have e1 : (ByteArray.mk ⟨s⟩)[pos]'h1' = b := h2
  have := decode_ascii ⟨⟨s⟩⟩ pos h1' (by rw [e1]; exact hl)
  rw [e1] at this
  exact this
end
def cellAt (w : World) (b i : Nat) : Option Value := w.cell? ⟨b, i, none⟩
inductive RepD (w : World) (A : Nat → Prop) : D → Value → Prop
  | int (k : IntKind) (n : Int) : RepD w A (.int k n) (.int k n)
  | bool (b : Bool) : RepD w A (.bool b) (.bool b)
  | str (s : List UInt8) : RepD w A (.str s) (.string ⟨⟨s⟩⟩)
  | fn (f : FuncId) : RepD w A (.fn f) (.func (.func f) #[] #[])
  | nilp : RepD w A .nilp (.pointer none)
  | nilf : RepD w A .nilf .nilFunc
  | nili : RepD w A .nili .nilIface
  | nil (sz : Nat) (a : Option Addr) (c : Nat) : RepD w A (.list sz []) (.slice a 0 c)
  | list (sz : Nat) (l : List (List D)) (b off c : Nat) (vs : Nat → Value) (h0 : 0 < l.length) (hz : 0 < sz) (hs : ∀ e ∈ l, e.length = sz) (hc : l.length ≤ c) (hA : ¬ A b)
      (hcell : ∀ i, i < l.length * sz → cellAt w b (off + i) = some (vs i))
      (hrep : ∀ i d, l.flatten[i]? = some d → RepD w A d (vs i)) :
      RepD w A (.list sz l) (.slice (some ⟨b, off, none⟩) l.length c)
structure Kept (O : Nat → Prop) (w w' : World) : Prop where
  os : w'.os = w.os
  tape : w'.tape = w.tape
  output : w'.output = w.output
  size : w.heap.size ≤ w'.heap.size
  block : ∀ b, b < w.heap.size → ¬ O b → w'.heap[b]? = w.heap[b]?
theorem Kept.refl (O : Nat → Prop) (w : World) : Kept O w w := ⟨rfl, rfl, rfl, Nat.le_refl _, fun _ _ _ => rfl⟩
theorem Kept.trans {O O' : Nat → Prop} {a b c : World} (h : Kept O a b) (k : Kept O' b c) (ho : ∀ x, x < a.heap.size → O' x → O x) : Kept O a c :=
  ⟨k.os.trans h.os, k.tape.trans h.tape, k.output.trans h.output, Nat.le_trans h.size k.size,
   fun x hx hn => (k.block x (Nat.lt_of_lt_of_le hx h.size) (fun hx' => hn (ho x hx hx'))).trans (h.block x hx hn)⟩
theorem Kept.mono {O O' : Nat → Prop} {a b : World} (h : Kept O a b) (ho : ∀ x, O x → O' x) : Kept O' a b :=
  ⟨h.os, h.tape, h.output, h.size, fun x hx hn => h.block x hx (fun h => hn (ho x h))⟩
theorem Kept.cell {O : Nat → Prop} {w w' : World} (h : Kept O w w') {b i : Nat} {v : Value} (hO : ¬ O b) (hc : cellAt w b i = some v) : cellAt w' b i = some v := by
  have hb : b < w.heap.size := World.block_lt_of_cell? w ⟨b, i, none⟩ hc
  have := h.block b hb hO
  unfold cellAt World.cell? at *
  simp only [this]
  exact hc
theorem cellAt_lt {w : World} {b i : Nat} {v : Value} (hc : cellAt w b i = some v) : b < w.heap.size := World.block_lt_of_cell? w ⟨b, i, none⟩ hc
theorem flat_length {l : List (List D)} {sz : Nat} (hs : ∀ e ∈ l, e.length = sz) : l.flatten.length = l.length * sz := by
  induction l with
  | nil => simp
  | cons e r ih =>
    simp only [List.flatten_cons, List.length_append, List.length_cons, hs e (by simp), ih (fun e he => hs e (by simp [he]))]
    rw [Nat.add_mul, Nat.one_mul, Nat.add_comm]
theorem flat_get {l : List (List D)} {sz : Nat} (hs : ∀ e ∈ l, e.length = sz) {i j : Nat} {e : List D} {d : D} (hi : l[i]? = some e) (hj : e[j]? = some d) : l.flatten[i * sz + j]? = some d := by
  induction l generalizing i with
  | nil => simp at hi
  | cons a r ih =>
    have ha : a.length = sz := hs a (by simp)
    cases i with
    | zero =>
      simp only [List.getElem?_cons_zero, Option.some.injEq] at hi
      subst hi
      have hlt : j < a.length := (List.getElem?_eq_some_iff.1 hj).1
      simp only [Nat.zero_mul, Nat.zero_add, List.flatten_cons]
      rw [List.getElem?_append_left hlt]
      exact hj
    | succ i =>
      simp only [List.getElem?_cons_succ] at hi
      have := ih (fun e he => hs e (by simp [he])) hi
      simp only [List.flatten_cons]
      rw [List.getElem?_append_right (by rw [ha, Nat.add_mul]; omega)]
      rw [← this]
      congr 1
      rw [ha, Nat.add_mul]
      omega
theorem RepD.mono {w w' : World} {A A' O : Nat → Prop} (hk : Kept O w w') (hO : ∀ b, O b → A b) (hA : ∀ b, b < w.heap.size → A' b → A b) {d : D} {v : Value} (h : RepD w A d v) : RepD w' A' d v := by
  induction h with
  | int k n => exact .int k n
  | bool b => exact .bool b
  | str s => exact .str s
  | fn f => exact .fn f
  | nilp => exact .nilp
  | nilf => exact .nilf
  | nili => exact .nili
  | nil sz a c => exact .nil sz a c
  | list sz l b off c vs h0 hz hs hc hnA hcell hrep ih =>
    have h1 := hcell 0 (Nat.mul_pos h0 hz)
    have hb : b < w.heap.size := cellAt_lt h1
    exact .list sz l b off c vs h0 hz hs hc (fun h => hnA (hA b hb h)) (fun i hi => hk.cell (fun h => hnA (hO b h)) (hcell i hi)) (fun i d hd => ih i d hd)
abbrev Rho := Nat → Value
def blkOf : Value → Option Nat
  | .pointer (some a) => some a.block
  | .slice (some a) _ _ => some a.block
  | .map (some r) => some r
  | _ => none
def lenAt (ob : List (Nat × Ob)) (x : Nat) : Option Nat :=
  match look ob x with
  | some (.row _ l) => some l.length
  | _ => none
def szAt (ob : List (Nat × Ob)) (x : Nat) : Nat :=
  match look ob x with
  | some (.row sz _) => sz
  | _ => 0
structure Cx where
  w : World
  A : Nat → Prop
  ρ : Rho
  ob : List (Nat × Ob)
  nx : Nat
inductive RepC (X : Cx) : C → Value → Prop
  | d (d : D) (v : Value) (h : RepD X.w X.A d v) : RepC X (.d d) v
  | nil : RepC X .nil (.slice none 0 0)
  | own (x n : Nat) (a : Option Addr) (m c : Nat) (hx : x < X.nx) (hle : ∀ m, lenAt X.ob x = some m → n ≤ m) (hv : lenAt X.ob x = some n → X.ρ x = .slice a m c) : RepC X (.own x n) (.slice a m c)
  | ptr (x off b : Nat) (hx : x < X.nx) (hr : X.ρ x = .pointer (some ⟨b, 0, none⟩)) : RepC X (.ptr x off) (.pointer (some ⟨b, off, none⟩))
  | rptr (x n i off : Nat) (b o : Nat) (hx : x < X.nx) (hle : ∀ m, lenAt X.ob x = some m → n ≤ m)
      (hv : lenAt X.ob x = some n → ∃ c, X.ρ x = .slice (some ⟨b, 0, none⟩) n c ∧ o = i * szAt X.ob x + off) : RepC X (.rptr x n i off) (.pointer (some ⟨b, o, none⟩))
  | lptr (e : List D) (off b o : Nat) (vs : Nat → Value) (hA : 0 < e.length → ¬ X.A b) (hcell : ∀ i, i < e.length → cellAt X.w b (o + i) = some (vs i))
      (hrep : ∀ i d, e[i]? = some d → RepD X.w X.A d (vs i)) : RepC X (.lptr e off) (.pointer (some ⟨b, o + off, none⟩))
  | lit (sz : Nat) (l : List (List D)) (a : Option Addr) (h : RepD X.w X.A (.list sz l) (.slice a l.length l.length)) : RepC X (.lit sz l) (.slice a l.length l.length)
  | clo (f : FuncId) (caps : List C) (cvs : List Value) (hl : cvs.length = caps.length) (hc : ∀ (i : Nat) (c : C) (v : Value), caps[i]? = some c → cvs[i]? = some v → RepC X c v) : RepC X (.clo f caps) (.func (.func f) #[] cvs.toArray)
  | map (x r : Nat) (hx : x < X.nx) (hr : X.ρ x = .map (some r)) : RepC X (.map x) (.map (some r))
  | iter (x r : Nat) (hx : x < X.nx) (hr : X.ρ x = .pointer (some ⟨r, 0, none⟩)) : RepC X (.iter x) (.pointer (some ⟨r, 0, none⟩))
  | any (v : Value) : RepC X .any v
inductive RepV (X : Cx) : V → Value → Prop
  | c (q : C) (v : Value) (h : RepC X q v) : RepV X (.c q) v
  | agg (cs : List C) (vs : List Value) (hl : vs.length = cs.length) (hc : ∀ (i : Nat) (q : C) (v : Value), cs[i]? = some q → vs[i]? = some v → RepC X q v) : RepV X (.agg cs) (.agg vs.toArray)
  | tup (xs : List V) (vs : List Value) (hl : vs.length = xs.length) (hc : ∀ (i : Nat) (q : V) (v : Value), xs[i]? = some q → vs[i]? = some v → RepV X q v) : RepV X (.tup xs) (.tuple vs.toArray)
def free (fr : Nat × Nat) (n : Nat) : Prop := fr.1 ≤ fr.2 ∧ ∀ i, i < n → ¬ (fr.1 ≤ i ∧ i < fr.2)
inductive RepK (w : World) (A : Nat → Prop) : D → Value → Prop
  | flat (d : D) (v : Value) (hf : d.flat = true) (h : RepD w A d v) : RepK w A d v
  | wide (ds : List D) (vs : List Value) (hl : vs.length = ds.length) (hc : ∀ (i : Nat) (d : D) (v : Value), ds[i]? = some d → vs[i]? = some v → RepD w A d v) : RepK w A (.list 0 [ds]) (.agg vs.toArray)
inductive ObRep (X : Cx) (x : Nat) : Ob → Prop
  | cells (cs : List C) (b : Nat) (t : TypeId) (fr : Nat × Nat) (vs : List Value) (hr : X.ρ x = .pointer (some ⟨b, 0, none⟩)) (hb : X.w.heap[b]? = some (.cells vs.toArray t fr))
      (hl : vs.length = cs.length) (hf : free fr vs.length) (hc : ∀ (i : Nat) (q : C) (v : Value), cs[i]? = some q → vs[i]? = some v → RepC X q v) (hone : ∀ q ∈ cs, q.isAny = false) : ObRep X x (.cells cs)
  | rowNil (sz : Nat) (hz : 0 < sz) (hr : X.ρ x = .slice none 0 0) : ObRep X x (.row sz [])
  | row (sz : Nat) (l : List (List D)) (b c : Nat) (t : TypeId) (fr : Nat × Nat) (vs : List Value) (hz : 0 < sz) (hs : ∀ e ∈ l, e.length = sz) (hr : X.ρ x = .slice (some ⟨b, 0, none⟩) l.length c)
      (hb : X.w.heap[b]? = some (.cells vs.toArray t fr)) (hl : vs.length = c * sz) (hc : l.length ≤ c) (hm : c ≤ 9223372036854775807) (hf : free fr vs.length)
      (hrep : ∀ (i : Nat) (d : D) (v : Value), l.flatten[i]? = some d → vs[i]? = some v → RepD X.w X.A d v) (hfr : 2 ≤ sz → fr = (0, 0)) : ObRep X x (.row sz l)
  | map (es : List (D × C)) (r : Nat) (mes : List MapEntry) (clock : Nat) (hr : X.ρ x = .map (some r)) (hb : X.w.heap[r]? = some (.map mes.toArray clock)) (hl : mes.length = es.length)
      (hk : ∀ (i : Nat) (p : D × C) (m : MapEntry), es[i]? = some p → mes[i]? = some m → RepK X.w X.A p.1 m.key ∧ RepC X p.2 m.val) (hone : ∀ p ∈ es, p.2.isAny = false) : ObRep X x (.map es)
  | iter (s : List UInt8) (pos r : Nat) (hr : X.ρ x = .pointer (some ⟨r, 0, none⟩)) (hb : X.w.heap[r]? = some (.stringIter ⟨⟨s⟩⟩ pos)) : ObRep X x (.iter s pos)
def Own (ρ : Rho) (ob : List (Nat × Ob)) (b : Nat) : Prop := ∃ x o, look ob x = some o ∧ blkOf (ρ x) = some b
structure HSim (F : Nat → Prop) (gl : Nat → Option (List D)) (w : World) (h : Hp) (ρ : Rho) : Prop where
  lt : ∀ x o, look h.obs x = some o → x < h.next
  obs : ∀ x o, look h.obs x = some o → ObRep ⟨w, fun b => F b ∨ Own ρ h.obs b, ρ, h.obs, h.next⟩ x o
  inj : ∀ x y o p b, look h.obs x = some o → look h.obs y = some p → blkOf (ρ x) = some b → blkOf (ρ y) = some b → x = y
  apart : ∀ b, F b → ¬ Own ρ h.obs b
  flt : ∀ b, F b → b < w.heap.size
  glob : ∀ g ds, gl g = some ds → RepC ⟨w, fun b => F b ∨ Own ρ h.obs b, ρ, h.obs, h.next⟩ (.lptr ds 0) (.pointer (some ⟨g, 0, none⟩))
abbrev cx (F : Nat → Prop) (w : World) (h : Hp) (ρ : Rho) : Cx := ⟨w, fun b => F b ∨ Own ρ h.obs b, ρ, h.obs, h.next⟩
structure Later (F : Nat → Prop) (w : World) (h : Hp) (ρ : Rho) (w' : World) (h' : Hp) (ρ' : Rho) : Prop where
  kept : Kept (Own ρ h.obs) w w'
  own : ∀ b, b < w.heap.size → Own ρ' h'.obs b → Own ρ h.obs b
  next : h.next ≤ h'.next
  rows : ∀ x n, x < h.next → lenAt h'.obs x = some n → ∃ m, lenAt h.obs x = some m ∧ m ≤ n ∧ (m = n → ρ' x = ρ x ∧ szAt h'.obs x = szAt h.obs x)
  rest : ∀ x, x < h.next → (∀ a n c, ρ x ≠ .slice a n c) → ρ' x = ρ x
theorem Later.refl (F : Nat → Prop) (w : World) (h : Hp) (ρ : Rho) : Later F w h ρ w h ρ :=
  ⟨.refl _ _, fun _ _ h => h, Nat.le_refl _, fun _ n _ hn => ⟨n, hn, Nat.le_refl _, fun _ => ⟨rfl, rfl⟩⟩, fun _ _ _ => rfl⟩
theorem RepC.mono {F : Nat → Prop} {w w' : World} {h h' : Hp} {ρ ρ' : Rho} (hl : Later F w h ρ w' h' ρ') {q : C} {v : Value} (hq : RepC (cx F w h ρ) q v) : RepC (cx F w' h' ρ') q v := by
  have hD : ∀ d v, RepD w (fun b => F b ∨ Own ρ h.obs b) d v → RepD w' (fun b => F b ∨ Own ρ' h'.obs b) d v := fun d v hd =>
    hd.mono hl.kept (fun b h => .inr h) (fun b hb h => h.elim .inl (fun h => .inr (hl.own b hb h)))
  induction hq with
  | d d v hd => exact .d d v (hD d v hd)
  | nil => exact .nil
  | own x n a m c hx hle hv =>
    refine .own x n a m c (Nat.lt_of_lt_of_le hx hl.next) ?_ ?_
    · intro k hk
      obtain ⟨j, hj, hjk, _⟩ := hl.rows x k hx hk
      exact Nat.le_trans (hle j hj) hjk
    · intro hn
      obtain ⟨j, hj, hjk, he⟩ := hl.rows x n hx hn
      obtain rfl : n = j := Nat.le_antisymm (hle j hj) hjk
      exact (he rfl).1.trans (hv hj)
  | ptr x off b hx hr => exact .ptr x off b (Nat.lt_of_lt_of_le hx hl.next) ((hl.rest x hx (fun a n c h => by rw [show ρ x = _ from hr] at h; cases h)).trans hr)
  | rptr x n i off b o hx hle hv =>
    refine .rptr x n i off b o (Nat.lt_of_lt_of_le hx hl.next) ?_ ?_
    · intro k hk
      obtain ⟨j, hj, hjk, _⟩ := hl.rows x k hx hk
      exact Nat.le_trans (hle j hj) hjk
    · intro hn
      obtain ⟨j, hj, hjk, he⟩ := hl.rows x n hx hn
      obtain rfl : n = j := Nat.le_antisymm (hle j hj) hjk
      obtain ⟨c, h1, h2⟩ := hv hj
      obtain ⟨e1, e2⟩ := he rfl
      exact ⟨c, e1.trans h1, by rw [h2]; show _ = _ * szAt h'.obs x + _; rw [e2]⟩
  | lptr e off b o vs hA hcell hrep =>
    refine .lptr e off b o vs ?_ ?_ (fun i d hd => hD d _ (hrep i d hd))
    · intro h0 hc
      have hb := cellAt_lt (hcell 0 h0)
      exact hA h0 (hc.elim .inl (fun h => .inr (hl.own b hb h)))
    · intro i hi
      exact hl.kept.cell (fun h => hA (Nat.lt_of_le_of_lt (Nat.zero_le _) hi) (.inr h)) (hcell i hi)
  | lit sz l a hd => exact .lit sz l a (hD _ _ hd)
  | clo f caps cvs hlen hc ih => exact .clo f caps cvs hlen ih
  | map x r hx hr => exact .map x r (Nat.lt_of_lt_of_le hx hl.next) ((hl.rest x hx (fun a n c h => by rw [show ρ x = _ from hr] at h; cases h)).trans hr)
  | iter x r hx hr => exact .iter x r (Nat.lt_of_lt_of_le hx hl.next) ((hl.rest x hx (fun a n c h => by rw [show ρ x = _ from hr] at h; cases h)).trans hr)
  | any v => exact .any v
theorem RepV.mono {F : Nat → Prop} {w w' : World} {h h' : Hp} {ρ ρ' : Rho} (hl : Later F w h ρ w' h' ρ') {q : V} {v : Value} (hq : RepV (cx F w h ρ) q v) : RepV (cx F w' h' ρ') q v := by
  induction hq with
  | c q v hq => exact .c q v (hq.mono hl)
  | agg cs vs hl' hc => exact .agg cs vs hl' (fun i q v h1 h2 => (hc i q v h1 h2).mono hl)
  | tup xs vs hl' hc ih => exact .tup xs vs hl' ih
section
variable {α : Type}
theorem look_put_same {l l' : List (Nat × α)} {x : Nat} {o : α} (h : put l x o = some l') : look l' x = some o := by
  induction l generalizing l' with
  | nil => simp [put] at h
  | cons p r ih =>
    obtain ⟨k, a⟩ := p
    unfold put at h
    by_cases hk : k = x
    · rw [if_pos hk] at h
      cases h
      simp [look, hk]
    · rw [if_neg hk] at h
      cases hp : put r x o with
      | none => rw [hp] at h; cases h
      | some l => rw [hp] at h; cases h; simp [look, hk, ih hp]
theorem look_put_other {l l' : List (Nat × α)} {x y : Nat} {o : α} (h : put l x o = some l') (hy : y ≠ x) : look l' y = look l y := by
  induction l generalizing l' with
  | nil => simp [put] at h
  | cons p r ih =>
    obtain ⟨k, a⟩ := p
    unfold put at h
    by_cases hk : k = x
    · rw [if_pos hk] at h
      cases h
      have : k ≠ y := fun e => hy (e.symm.trans hk)
      simp [look, this]
    · rw [if_neg hk] at h
      cases hp : put r x o with
      | none => rw [hp] at h; cases h
      | some l => rw [hp] at h; cases h; simp [look, ih hp]
theorem look_del_same (l : List (Nat × α)) (x : Nat) : look (del l x) x = none := by
  induction l with
  | nil => rfl
  | cons p r ih => obtain ⟨k, a⟩ := p; by_cases hk : k = x <;> simp [del, look, hk, ih]
theorem look_del_other (l : List (Nat × α)) {x y : Nat} (h : y ≠ x) : look (del l x) y = look l y := by
  induction l with
  | nil => rfl
  | cons p r ih =>
    obtain ⟨k, a⟩ := p
    by_cases hk : k = x
    · have : k ≠ y := fun e => h (e.symm.trans hk)
      simp [del, look, hk, ih]
      intro e; exact absurd e.symm h
    · simp [del, look, hk, ih]
theorem look_del {l : List (Nat × α)} {x y : Nat} {o : α} (h : look (del l x) y = some o) : look l y = some o := by
  by_cases hy : y = x
  · subst hy; rw [look_del_same] at h; cases h
  · rwa [look_del_other l hy] at h
end
theorem lenAt_eq {ob ob' : List (Nat × Ob)} {x : Nat} (h : look ob' x = look ob x) : lenAt ob' x = lenAt ob x := by simp [lenAt, h]
theorem szAt_eq {ob ob' : List (Nat × Ob)} {x : Nat} (h : look ob' x = look ob x) : szAt ob' x = szAt ob x := by simp [szAt, h]
section
variable {F : Nat → Prop} {gl : Nat → Option (List D)} {w w' : World} {h h' : Hp} {ρ ρ' : Rho}
theorem RepD.later (hl : Later F w h ρ w' h' ρ') {d : D} {v : Value} (hd : RepD w (fun b => F b ∨ Own ρ h.obs b) d v) : RepD w' (fun b => F b ∨ Own ρ' h'.obs b) d v :=
  hd.mono hl.kept (fun _ h => .inr h) (fun b hb h => h.elim .inl (fun h => .inr (hl.own b hb h)))
theorem RepK.later (hl : Later F w h ρ w' h' ρ') {d : D} {v : Value} (hd : RepK w (fun b => F b ∨ Own ρ h.obs b) d v) : RepK w' (fun b => F b ∨ Own ρ' h'.obs b) d v := by
  cases hd with
  | flat _ _ hf h => exact .flat _ _ hf (h.later hl)
  | wide ds vs hlen hc => exact .wide ds vs hlen (fun i d v h1 h2 => (hc i d v h1 h2).later hl)
theorem ObRep.mono (hl : Later F w h ρ w' h' ρ') {x : Nat} {o : Ob} (hρ : ρ' x = ρ x) (hb : ∀ b, blkOf (ρ x) = some b → w'.heap[b]? = w.heap[b]?)
    (ho : ObRep (cx F w h ρ) x o) : ObRep (cx F w' h' ρ') x o := by
  cases ho with
  | cells cs b t fr vs hr hb' hlen hf hc hone => exact .cells cs b t fr vs (hρ.trans hr) ((hb b (by rw [show ρ x = _ from hr]; rfl)).trans hb') hlen hf (fun i q v h1 h2 => (hc i q v h1 h2).mono hl) hone
  | rowNil sz hz hr => exact .rowNil sz hz (hρ.trans hr)
  | row sz l b c t fr vs hz hs hr hb' hlen hc hm hf hrep hfr => exact .row sz l b c t fr vs hz hs (hρ.trans hr) ((hb b (by rw [show ρ x = _ from hr]; rfl)).trans hb') hlen hc hm hf (fun i d v h1 h2 => (hrep i d v h1 h2).later hl) hfr
  | map es r mes clock hr hb' hlen hk hone => exact .map es r mes clock (hρ.trans hr) ((hb r (by rw [show ρ x = _ from hr]; rfl)).trans hb') hlen (fun i p m h1 h2 => ⟨(hk i p m h1 h2).1.later hl, (hk i p m h1 h2).2.mono hl⟩) hone
  | iter s pos r hr hb' => exact .iter s pos r (hρ.trans hr) ((hb r (by rw [show ρ x = _ from hr]; rfl)).trans hb')
theorem ObRep.blk_lt {X : Cx} {x : Nat} {o : Ob} (ho : ObRep X x o) {b : Nat} (hb : blkOf (X.ρ x) = some b) : b < X.w.heap.size := by
  have hlt : ∀ (b : Nat) (o : Obj), X.w.heap[b]? = some o → b < X.w.heap.size := fun b o h => (Array.getElem?_eq_some_iff.1 h).1
  cases ho with
  | cells cs b' t fr vs hr hb' => rw [hr] at hb; simp only [blkOf, Option.some.injEq] at hb; subst hb; exact hlt _ _ hb'
  | rowNil sz hz hr => rw [hr] at hb; simp [blkOf] at hb
  | row sz l b' c t fr vs hz hs hr hb' => rw [hr] at hb; simp only [blkOf, Option.some.injEq] at hb; subst hb; exact hlt _ _ hb'
  | map es r mes clock hr hb' => rw [hr] at hb; simp only [blkOf, Option.some.injEq] at hb; subst hb; exact hlt _ _ hb'
  | iter s pos r hr hb' => rw [hr] at hb; simp only [blkOf, Option.some.injEq] at hb; subst hb; exact hlt _ _ hb'
theorem HSim.own_lt (hs : HSim F gl w h ρ) {b : Nat} (hb : Own ρ h.obs b) : b < w.heap.size := by
  obtain ⟨x, o, hx, hbx⟩ := hb
  exact (hs.obs x o hx).blk_lt hbx
theorem HSim.change (hs : HSim F gl w h ρ) (hl : Later F w h ρ w' h' ρ') (x : Nat) (o1 : Ob) (hx : look h'.obs x = some o1) (hxlt : x < h'.next)
    (hrep : ObRep (cx F w' h' ρ') x o1) (hlook : ∀ y o, y ≠ x → look h'.obs y = some o → look h.obs y = some o) (hρ : ∀ y o, y ≠ x → look h.obs y = some o → ρ' y = ρ y)
    (hkeep : ∀ y o b, y ≠ x → look h.obs y = some o → blkOf (ρ y) = some b → w'.heap[b]? = w.heap[b]?)
    (hinj : ∀ y o b, y ≠ x → look h.obs y = some o → blkOf (ρ y) = some b → blkOf (ρ' x) ≠ some b) (hF : ∀ b, F b → blkOf (ρ' x) ≠ some b) : HSim F gl w' h' ρ' where
  lt := fun y o hy => by
    by_cases e : y = x
    · exact e ▸ hxlt
    · exact Nat.lt_of_lt_of_le (hs.lt y o (hlook y o e hy)) hl.next
  obs := fun y o hy => by
    by_cases e : y = x
    · subst e; rw [hx] at hy; cases hy; exact hrep
    · have hy' := hlook y o e hy
      exact (hs.obs y o hy').mono hl (hρ y o e hy') (fun b hb => hkeep y o b e hy' hb)
  inj := fun y z o p b hy hz hb hb' => by
    by_cases ey : y = x
    · by_cases ez : z = x
      · rw [ey, ez]
      · subst ey
        have hz' := hlook z p ez hz
        rw [hρ z p ez hz'] at hb'
        exact (hinj z p b ez hz' hb' hb).elim
    · have hy' := hlook y o ey hy
      rw [hρ y o ey hy'] at hb
      by_cases ez : z = x
      · subst ez; exact (hinj y o b ey hy' hb hb').elim
      · have hz' := hlook z p ez hz
        rw [hρ z p ez hz'] at hb'
        exact hs.inj y z o p b hy' hz' hb hb'
  apart := fun b hb ⟨y, o, hy, hby⟩ => by
    by_cases e : y = x
    · subst e; exact hF b hb hby
    · have hy' := hlook y o e hy
      rw [hρ y o e hy'] at hby
      exact hs.apart b hb ⟨y, o, hy', hby⟩
  flt := fun b hb => Nat.lt_of_lt_of_le (hs.flt b hb) hl.kept.size
  glob := fun g ds hg => (hs.glob g ds hg).mono hl
theorem HSim.same (hs : HSim F gl w h ρ) (hl : Later F w h ρ w' h' ρ') (hlook : ∀ y o, look h'.obs y = some o → look h.obs y = some o) (hρ : ∀ y o, look h.obs y = some o → ρ' y = ρ y)
    (hkeep : ∀ y o b, look h.obs y = some o → blkOf (ρ y) = some b → w'.heap[b]? = w.heap[b]?) : HSim F gl w' h' ρ' where
  lt := fun y o hy => Nat.lt_of_lt_of_le (hs.lt y o (hlook y o hy)) hl.next
  obs := fun y o hy => (hs.obs y o (hlook y o hy)).mono hl (hρ y o (hlook y o hy)) (fun b hb => hkeep y o b (hlook y o hy) hb)
  inj := fun y z o p b hy hz hb hb' => by
    rw [hρ y o (hlook y o hy)] at hb
    rw [hρ z p (hlook z p hz)] at hb'
    exact hs.inj y z o p b (hlook y o hy) (hlook z p hz) hb hb'
  apart := fun b hb ⟨y, o, hy, hby⟩ => by
    rw [hρ y o (hlook y o hy)] at hby
    exact hs.apart b hb ⟨y, o, hlook y o hy, hby⟩
  flt := fun b hb => Nat.lt_of_lt_of_le (hs.flt b hb) hl.kept.size
  glob := fun g ds hg => (hs.glob g ds hg).mono hl
theorem Later.shed (hlook : ∀ y o, look h'.obs y = some o → look h.obs y = some o) (hn : h.next ≤ h'.next) : Later F w h ρ w h' ρ where
  kept := .refl _ _
  own := fun b _ ⟨x, o, hx, hb⟩ => ⟨x, o, hlook x o hx, hb⟩
  next := hn
  rows := fun x n _ hx => by
    unfold lenAt at hx ⊢
    cases hl : look h'.obs x with
    | none => rw [hl] at hx; cases hx
    | some o => rw [hl] at hx; rw [hlook x o hl]; exact ⟨n, hx, Nat.le_refl _, fun _ => ⟨rfl, by simp [szAt, hl, hlook x o hl]⟩⟩
  rest := fun _ _ _ => rfl
theorem HSim.shed (hs : HSim F gl w h ρ) (hlook : ∀ y o, look h'.obs y = some o → look h.obs y = some o) (hn : h.next ≤ h'.next) : HSim F gl w h' ρ :=
  hs.same (.shed hlook hn) hlook (fun _ _ _ => rfl) (fun _ _ _ _ _ => rfl)
theorem Later.trans {w2 : World} {h2 : Hp} {ρ2 : Rho} (a : Later F w h ρ w' h' ρ') (b : Later F w' h' ρ' w2 h2 ρ2) : Later F w h ρ w2 h2 ρ2 where
  kept := a.kept.trans b.kept (fun x hx h => a.own x hx h)
  own := fun x hx h => a.own x hx (b.own x (Nat.lt_of_lt_of_le hx a.kept.size) h)
  next := Nat.le_trans a.next b.next
  rows := fun x n hx hn => by
    obtain ⟨m, hm, hmn, e⟩ := b.rows x n (Nat.lt_of_lt_of_le hx a.next) hn
    obtain ⟨k, hk, hkm, e'⟩ := a.rows x m hx hm
    refine ⟨k, hk, Nat.le_trans hkm hmn, fun hkn => ?_⟩
    subst hkn
    obtain rfl : m = k := Nat.le_antisymm hmn hkm
    obtain ⟨e1, e2⟩ := e rfl
    obtain ⟨e3, e4⟩ := e' rfl
    exact ⟨e1.trans e3, e2.trans e4⟩
  rest := fun x hx hns => by
    have h1 := a.rest x hx hns
    exact (b.rest x (Nat.lt_of_lt_of_le hx a.next) (by rw [h1]; exact hns)).trans h1
theorem Later.block (hk : Kept (fun _ => False) w w') : Later F w h ρ w' h ρ where
  kept := hk.mono (fun _ h => h.elim)
  own := fun _ _ h => h
  next := Nat.le_refl _
  rows := fun _ n _ hn => ⟨n, hn, Nat.le_refl _, fun _ => ⟨rfl, rfl⟩⟩
  rest := fun _ _ _ => rfl
theorem HSim.block (hs : HSim F gl w h ρ) (hk : Kept (fun _ => False) w w') : HSim F gl w' h ρ :=
  hs.same (.block hk) (fun _ _ h => h) (fun _ _ _ => rfl) (fun y o b hy hb => hk.block b (hs.own_lt ⟨y, o, hy, hb⟩) (fun h => h))
def upd (ρ : Rho) (x : Nat) (v : Value) : Rho := fun y => if y = x then v else ρ y
theorem upd_same (ρ : Rho) (x : Nat) (v : Value) : upd ρ x v x = v := by simp [upd]
theorem upd_other (ρ : Rho) {x y : Nat} (v : Value) (h : y ≠ x) : upd ρ x v y = ρ y := by simp [upd, h]
theorem Later.new {ob : Ob} {v : Value} {obs : List (Nat × Ob)} (hk : Kept (fun _ => False) w w') (hv : ∀ b, blkOf v = some b → w.heap.size ≤ b)
    (hobs : ∀ y o, y ≠ h.next → look obs y = some o → look h.obs y = some o) :
    Later F w h ρ w' ⟨h.next + 1, (h.next, ob) :: obs⟩ (upd ρ h.next v) where
  kept := hk.mono (fun _ h => h.elim)
  own := fun b hb ⟨x, o, hx, hbx⟩ => by
    by_cases e : x = h.next
    · subst e
      rw [upd_same] at hbx
      have := hv b hbx
      omega
    · have hx' : look obs x = some o := by simpa [look, Ne.symm e] using hx
      rw [upd_other _ _ e] at hbx
      exact ⟨x, o, hobs x o e hx', hbx⟩
  next := by simp
  rows := fun x n hx hn => by
    have e : x ≠ h.next := Nat.ne_of_lt hx
    have hl : look ((h.next, ob) :: obs) x = look obs x := by simp [look, Ne.symm e]
    unfold lenAt at hn
    rw [hl] at hn
    cases ho : look obs x with
    | none => rw [ho] at hn; cases hn
    | some o =>
      rw [ho] at hn
      have hb := hobs x o e ho
      exact ⟨n, by simpa [lenAt, hb] using hn, Nat.le_refl _, fun _ => ⟨upd_other _ _ e, by simp [szAt, look, Ne.symm e, ho, hb]⟩⟩
  rest := fun x hx _ => upd_other _ _ (Nat.ne_of_lt hx)
theorem HSim.new {ob : Ob} {v : Value} {obs : List (Nat × Ob)} (hs : HSim F gl w h ρ) (hk : Kept (fun _ => False) w w') (hv : ∀ b, blkOf v = some b → w.heap.size ≤ b)
    (hobs : ∀ y o, y ≠ h.next → look obs y = some o → look h.obs y = some o)
    (hrep : ObRep (cx F w' ⟨h.next + 1, (h.next, ob) :: obs⟩ (upd ρ h.next v)) h.next ob) : HSim F gl w' ⟨h.next + 1, (h.next, ob) :: obs⟩ (upd ρ h.next v) := by
  have hn : ∀ {y o}, look h.obs y = some o → y ≠ h.next := fun hy e => by have := hs.lt _ _ hy; omega
  refine hs.change (.new hk hv hobs) h.next ob (by simp [look]) (by simp) hrep ?_ ?_ ?_ ?_ ?_
  · intro y o hy hl
    exact hobs y o hy (by simpa [look, Ne.symm hy] using hl)
  · intro y o hy _
    exact upd_other _ _ hy
  · intro y o b _ hy hb
    exact hk.block b (hs.own_lt ⟨y, o, hy, hb⟩) (fun h => h)
  · intro y o b _ hy hb
    rw [upd_same]
    intro hvb
    have := hv b hvb
    have := hs.own_lt ⟨y, o, hy, hb⟩
    omega
  · intro b hb
    rw [upd_same]
    intro hvb
    have := hv b hvb
    have := hs.flt b hb
    omega
end
theorem kept_alloc (w : World) (o : Obj) : Kept (fun _ => False) w (w.alloc o) := ⟨rfl, rfl, rfl, by simp, fun b hb _ => heap_alloc_old w o b hb⟩
theorem kept_drew (w : World) : Kept (fun _ => False) w w.drew := ⟨rfl, rfl, rfl, Nat.le_refl _, fun _ _ _ => rfl⟩
end Go.Am
