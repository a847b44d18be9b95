/- The abstract values, the small code, and what it computes. No memory: slices, structs and boxes are lists. -/
import Derived.LoopN
namespace Go.Vi

/-- How a slice or a map is held: shared, may be appended to, alone (may be written). -/
inductive Own where
  | s | a | x
  deriving DecidableEq

inductive V where
  | undef
  | skp
  | bool (b : Bool)
  | abool
  | int (k : IntKind) (n : Int)
  | str (s : ByteArray)
  | agg (cs : List V)
  | tup (vs : List V)
  | sl (o : Own) (sz : Nat) (xs : List (List V))
  | ptr (cs : List V) (off : Nat)
  | loc (d : Nat) (off : Nat)
  | el (t : Nat) (i off : Nat)
  | rf (t : Nat)
  | mp (o : Own) (es : List (V × V))
  | it (cur es : List (V × V))
  | fn (f : Fn) (fs cs : List V)
  | nili
  | nilp
  | nilf
  | raw (v : Value)

/-- An operand: a copy of a slot, a slot's value handed on (and how it is held then), a constant. -/
inductive A where
  | t (n : Nat)
  | m (o : Own) (n : Nat)
  | c (v : V)

inductive Root where
  | none
  | bx (d : Nat)
  | tm (t : Nat)
  deriving DecidableEq

/-- The kind of a plain cell. -/
inductive Lk where
  | i (k : IntKind)
  | b
  | s
  deriving DecidableEq

inductive MOp where
  | mv (x : A)
  | pick (c x y : A)
  | alloc (z : List V)
  | box (sz : Nat) (x : A)
  | build (z : List V) (ps : List (Nat × Nat × A))
  | bsl (sz n : Nat) (z : List V) (ps : List (Nat × A))
  | load (r : Root) (ag : Bool) (sz : Nat) (p : A)
  | take (r : Root) (p : A)
  | store (r : Root) (sz : Nat) (p x : A)
  | nilchk (x : A)
  | bin (op : BinOp) (x y : A)
  | eqs (ag : Bool) (ks : List Lk) (neg : Bool) (x y : A)
  | un (op : UnOp) (x : A)
  | isnil (neg : Bool) (x : A)
  | bytes (x : A)
  | rng (x : A)
  | ent (t : Nat)
  | slarr (r : Root) (n sz : Nat) (p : A)
  | conv (k : IntKind) (x : A)
  | mkfn (f : Fn) (roots : List Nat) (fs cs : List A)
  | mkmap
  | mksl (sz bytes : Nat) (z : List V) (n : A)
  | slcs (x : A) (lo hi : Option A)
  | slc (sz : Nat) (x : A) (lo hi mx : Option A)
  | faddr (r : Root) (off : Nat) (p : A)
  | fld (ag : Bool) (sz off : Nat) (x : A)
  | iarr (n sz : Nat) (p i : A)
  | iaddr (r : Root) (sz : Nat) (x i : A)
  | idxs (x i : A)
  | idxa (ag : Bool) (n sz : Nat) (x i : A)
  | look (r : Root) (ag : Bool) (ks : List Lk) (z : V) (ok : Bool) (mp k : A)
  | mset (r : Root) (ag : Bool) (ks : List Lk) (mp k v : A)
  | ext (i : Nat) (x : A)
  | len (kd : Nat) (r : Root) (x : A)
  | app (sz bytes : Nat) (x y : A)
  | mx (big : Bool) (xs : List A)
  | call (f : FuncId) (args : List A)
  | callv (f : A) (args : List A)

structure MO where
  dst : Option Nat
  op : MOp
  guard : Option (Nat × Bool)

inductive RV where
  | tmp (t : Nat)
  | cell (d : Nat) (ag : Bool) (sz : Nat)

inductive M where
  | skip
  | reg (draw : Bool) (ops : List MO)
  | seq (a b : M)
  | cond (c : A) (t e : M)
  | block (id : Nat) (b : M)
  | loop (b : M)
  | exit (id : Nat)
  | scope (b : M)
  | ret
  | freeze (d : Nat)
  | kill (ks : List Nat)
  | own (o : Own) (t : Nat)
  | nxt (d t : Nat) (ops : List MO)
  | yld (pre : List MO) (f : A) (args : List A) (d : Nat) (post : List MO)
  | rngf (f : A) (ps wr : List Nat) (as body : M)

structure MFunc where
  np : Nat
  body : M
  res : List RV

/-! ### slots -/
def get {α : Type} : List (Nat × α) → Nat → Option α
  | [], _ => none
  | (k, v) :: l, d => if k = d then some v else get l d

def put {α : Type} : List (Nat × α) → Nat → α → List (Nat × α)
  | [], d, v => [(d, v)]
  | (k, u) :: l, d, v => if k = d then (d, v) :: l else if k < d then (k, u) :: put l d v else (d, v) :: (k, u) :: l

def del {α : Type} : List (Nat × α) → Nat → List (Nat × α)
  | [], _ => []
  | (k, u) :: l, d => if k = d then del l d else (k, u) :: del l d

structure St where
  tm : List (Nat × V)
  bx : List (Nat × Bool × List V)

def St.at (st : St) (t : Nat) : V := (get st.tm t).getD .undef

/-- What a copy is. -/
def cp : V → V
  | .sl .a sz xs => .sl .s sz xs
  | .sl .x _ _ => .undef
  | .mp .a es => .mp .s es
  | .mp .x _ => .undef
  | .tup _ => .undef
  | .it .. => .undef
  | v => v

/-- How what is handed on is held then. -/
def low : Own → V → V
  | .s, .sl _ sz xs => .sl .s sz xs
  | .a, .sl .x sz xs => .sl .a sz xs
  | .s, .mp _ es => .mp .s es
  | _, v => v

/-- What a copy of a slot is. -/
def cpa (n : Nat) : V → V
  | .sl .x _ _ => .rf n
  | .mp .x _ => .rf n
  | v => cp v

def St.val (st : St) : A → V
  | .t n => cpa n (st.at n)
  | .m o n => low o (st.at n)
  | .c v => v

def St.raw (st : St) : A → V
  | .t n => st.at n
  | .m _ n => st.at n
  | .c v => v

/-- The slots that are handed on are empty. -/
def gone : List A → List (Nat × V) → List (Nat × V)
  | [], l => l
  | .m _ n :: xs, l => gone xs (put l n .undef)
  | _ :: xs, l => gone xs l

def St.gone (st : St) (xs : List A) : St := { st with tm := Vi.gone xs st.tm }

def flat : V → List V
  | .agg cs => cs
  | v => [v]

/-- The cells of a value that is a struct or an array, or of one that is not. -/
def cellsAg : Bool → V → Option (List V)
  | true, .agg cs => some cs
  | true, _ => none
  | false, .agg _ => none
  | false, v => some [v]

/-- Is it no pointer into a box or a slot's slice? -/
def data : V → Bool
  | .loc .. | .el .. | .rf _ => false
  | _ => true

/-- Is it one cell? -/
def leaf : V → Bool
  | .agg _ | .tup _ | .skp | .loc .. | .el .. | .rf _ | .mp .x _ | .it .. | .undef | .raw _ => false
  | _ => true

def mkv (ag : Bool) (cs : List V) : Option V :=
  if ag then some (.agg cs) else match cs with
    | [v] => some v
    | _ => none

def cut (cs : List V) (off sz : Nat) : Option (List V) := if off + sz ≤ cs.length then some ((cs.drop off).take sz) else none

def paste (cs : List V) (off : Nat) (new : List V) : List V := cs.take off ++ new ++ cs.drop (off + new.length)

/-! ### what operations compute -/
def leq1 : Lk → V → V → Option Bool
  | .i k, .int k1 a, .int k2 b => if k1 = k ∧ k2 = k then some (a == b) else none
  | .b, .bool a, .bool b => some (a == b)
  | .s, .str a, .str b => some (a.toList == b.toList)
  | _, _, _ => none

def leqs : List Lk → List V → List V → Option Bool
  | [], [], [] => some true
  | k :: ks, a :: l, b :: r => match leq1 k a b, leqs ks l r with
    | some x, some y => some (x && y)
    | _, _ => none
  | _, _, _ => none

def band (k : IntKind) (a b : Int) : Int := k.wrap (BitVec.ofInt k.bits a &&& BitVec.ofInt k.bits b).toNat
def bor (k : IntKind) (a b : Int) : Int := k.wrap (BitVec.ofInt k.bits a ||| BitVec.ofInt k.bits b).toNat
def bxor (k : IntKind) (a b : Int) : Int := k.wrap (BitVec.ofInt k.bits a ^^^ BitVec.ofInt k.bits b).toNat
def bandn (k : IntKind) (a b : Int) : Int := k.wrap (BitVec.ofInt k.bits a &&& ~~~ BitVec.ofInt k.bits b).toNat

def ibin (op : BinOp) (k : IntKind) (a b : Int) : Option V :=
  match op with
  | .add => some (.int k (k.wrap (a + b)))
  | .sub => some (.int k (k.wrap (a - b)))
  | .mul => some (.int k (k.wrap (a * b)))
  | .quo => if b = 0 then none else some (.int k (k.wrap (a.tdiv b)))
  | .rem => if b = 0 then none else some (.int k (a.tmod b))
  | .and => some (.int k (band k a b))
  | .or => some (.int k (bor k a b))
  | .xor => some (.int k (bxor k a b))
  | .andNot => some (.int k (bandn k a b))
  | .eql => some (.bool (a == b))
  | .neq => some (.bool (a != b))
  | .lss => some (.bool (decide (a < b)))
  | .leq => some (.bool (decide (a ≤ b)))
  | .gtr => some (.bool (decide (a > b)))
  | .geq => some (.bool (decide (a ≥ b)))
  | _ => none

def sbin (op : BinOp) (a b : ByteArray) : Option V :=
  match op with
  | .add => if a.size + b.size ≤ 9223372036854775807 then some (.str (a ++ b)) else none
  | .eql => some (.bool (a.toList == b.toList))
  | .neq => some (.bool !(a.toList == b.toList))
  | .lss => some (.bool (Op.bytesLess a.toList b.toList))
  | .leq => some (.bool (Op.bytesLess a.toList b.toList || a.toList == b.toList))
  | .gtr => some (.bool !(Op.bytesLess a.toList b.toList || a.toList == b.toList))
  | .geq => some (.bool !(Op.bytesLess a.toList b.toList))
  | _ => none

def binv (op : BinOp) : V → V → Option V
  | .int k a, .int k' b =>
    match op with
    | .shl => if 0 ≤ b then some (.int k (k.wrap (a * 2 ^ (min b.toNat k.bits)))) else none
    | .shr => if 0 ≤ b then some (.int k (a.fdiv (2 ^ (min b.toNat k.bits)))) else none
    | _ => if k = k' then ibin op k a b else none
  | .str a, .str b => sbin op a b
  | _, _ => none

def unv (op : UnOp) : V → Option V
  | .int k n => match op with
    | .neg => some (.int k (k.wrap (0 - n)))
    | _ => none
  | .bool b => match op with
    | .not => some (.bool !b)
    | _ => none
  | _ => none

/-- What a name of a slot's slice or map stands for. -/
def St.deref (st : St) (r : Root) : V → V
  | .rf s => if r = .tm s then match st.at s with
      | .sl .x sz xs => .sl .x sz xs
      | .mp .x es => .mp .x es
      | _ => .undef
    else .undef
  | v => v

/-- The cells that a pointer leads to. -/
def St.cells (st : St) (r : Root) (p : V) (sz : Nat) : Option (List V) :=
  match p with
  | .ptr cs off => cut cs off sz
  | .loc d off => if r = .bx d then (get st.bx d).bind fun b => cut b.2 off sz else none
  | .el t i off => if r = .tm t then match st.at t with
      | .sl .x _ xs => (xs[i]?).bind fun c => cut c off sz
      | _ => none
    else none
  | _ => none

def cps (l : List V) : List V := l.map cp

def St.write (st : St) (r : Root) (p : V) (new : List V) : Option St :=
  match p with
  | .loc d off => if r = .bx d then match get st.bx d with
      | some (false, cs) => if off + new.length ≤ cs.length then some { st with bx := put st.bx d (false, paste cs off new) } else none
      | _ => none
    else none
  | .el t i off => if r = .tm t then match st.at t with
      | .sl .x sz xs => match xs[i]? with
        | some c => if off + new.length ≤ c.length then some { st with tm := put st.tm t (.sl .x sz (xs.set i (paste c off new))) } else none
        | none => none
      | _ => none
    else none
  | _ => none

def fill (st : St) : List V → List (Nat × Nat × A) → Option (List V)
  | cs, [] => some cs
  | cs, (off, sz, x) :: ps =>
    let new := flat (cp (st.val x))
    if new.length = sz ∧ off + sz ≤ cs.length ∧ new.all leaf = true then fill st (paste cs off new) ps else none

def rowsOf (st : St) (sz : Nat) : List (List V) → List (Nat × A) → Option (List (List V))
  | xs, [] => some xs
  | xs, (i, x) :: ps =>
    let new := flat (cp (st.val x))
    if new.length = sz ∧ i < xs.length ∧ new.all leaf = true then rowsOf st sz (xs.set i new) ps else none

/-- Does a pointer into the box of slot d stand in another slot? -/
def away (d : Nat) : List (Nat × V) → Bool
  | [] => true
  | (t, .loc d' _) :: l => (t == d || d' != d) && away d l
  | _ :: l => away d l

def asInts : List V → Option (IntKind × List Int)
  | [.int k n] => some (k, [n])
  | .int k n :: l => match asInts l with
    | some (k', r) => if k = k' then some (k, n :: r) else none
    | none => none
  | _ => none

def leqv (ag : Bool) (ks : List Lk) (x y : V) : Option Bool := match cellsAg ag x, cellsAg ag y with
  | some xs, some ys => leqs ks xs ys
  | _, _ => none

def assoc (ag : Bool) (ks : List Lk) (k : V) : List (V × V) → Option (Option V)
  | [] => some none
  | (k', v) :: es => match leqv ag ks k k' with
    | some true => some (some v)
    | some false => assoc ag ks k es
    | none => none

def assocSet (ag : Bool) (ks : List Lk) (k v : V) : List (V × V) → Option (List (V × V))
  | [] => some [(k, v)]
  | (k', u) :: es => match leqv ag ks k k' with
    | some true => some ((k, v) :: es)
    | some false => (assocSet ag ks k v es).map ((k', u) :: ·)
    | none => none

/-- Is this the entry of a key? -/
def hit (ag : Bool) (ks : List Lk) (k : V) (kv : V × V) : Bool := leqv ag ks k kv.1 == some true

def allFit (ag : Bool) (ks : List Lk) (k : V) (es : List (V × V)) : Bool := es.all fun kv => (leqv ag ks k kv.1).isSome

/-- What a map has for a key, whatever its order. -/
def lookM (ag : Bool) (ks : List Lk) (k : V) (es : List (V × V)) : Option (Option V) :=
  if allFit ag ks k es then match es.filter (hit ag ks k) with
    | [] => some none
    | [kv] => some (some kv.2)
    | _ => none
  else none

/-- Keys in order, by their numbers. -/
def kless1 : List V → List V → Bool
  | .int _ a :: l, .int _ b :: r => if a < b then true else if b < a then false else kless1 l r
  | _ :: l, _ :: r => kless1 l r
  | _, _ => false

def kless (x y : V) : Bool := kless1 (flat x) (flat y)

def insK (kv : V × V) : List (V × V) → List (V × V)
  | [] => [kv]
  | x :: es => if kless kv.1 x.1 then kv :: x :: es else x :: insK kv es

/-- A map with a key set: a new key goes to its place. -/
def setM (ag : Bool) (ks : List Lk) (k v : V) (es : List (V × V)) : Option (List (V × V)) :=
  if allFit ag ks k es then match es.filter (hit ag ks k) with
    | [] => some (insK (k, v) es)
    | [_] => some (es.map fun kv => if hit ag ks k kv then (k, v) else kv)
    | _ => none
  else none

/-- Are cells of these kinds? -/
def fits (ag : Bool) (ks : List Lk) (x : V) : Bool := (leqv ag ks x x).isSome

def St.ints (st : St) (x : A) : Option Int := match st.val x with
  | .int _ n => some n
  | _ => none

def St.optInt (st : St) (dflt : Int) : Option A → Option Int
  | none => some dflt
  | some x => st.ints x

def vals (st : St) (xs : List A) : List V := xs.map st.val

/-- An array's elements. -/
def rowsCut (n sz : Nat) (cs : List V) : List (List V) := (List.range n).map fun i => (cs.drop (i * sz)).take sz

/-- The most elements that memory bears. -/
def room (n bytes : Nat) : Bool := decide (n * bytes ≤ 140737488355328) && decide (n ≤ 9223372036854775807)

section
variable (call : FuncId → List V → Option V)

/-- One operation: the value for its slot, and the state. -/
def exec (o : MOp) (st : St) : Option (V × St) :=
  match o with
  | .mv x => some (st.val x, st.gone [x])
  | .pick c x y => match st.val c with
    | .bool b => some (if b then st.val x else st.val y, st)
    | _ => none
  | .alloc _ => none
  | .box _ _ => none
  | .build z ps => (fill st z ps).map fun cs => (.agg cs, st.gone (ps.map (·.2.2)))
  | .bsl sz n z ps => if z.length = sz ∧ n * sz ≤ 16777216 ∧ n ≤ 16777216 then (rowsOf st sz (List.replicate n z) ps).map fun xs => (.sl .x sz xs, st.gone (ps.map (·.2))) else none
  | .load r ag sz p => (st.cells r (st.raw p) sz).bind fun cs => (mkv ag (cps cs)).map fun v => (v, st)
  | .take r p => match r, st.raw p with
    | .bx d, .loc d' off => if d = d' then match get st.bx d with
        | some (false, cs) => (cs[off]?).map fun v => (v, { st with bx := put st.bx d (false, cs.set off .undef) })
        | _ => none
      else none
    | _, _ => none
  | .store r sz p x =>
    let new := flat (st.val x)
    if new.length = sz ∧ new.all leaf = true then (st.write r (st.raw p) new).map fun st => (.undef, st.gone [x]) else none
  | .nilchk x => match st.raw x with
    | .ptr cs off => some (.ptr cs off, st)
    | .loc d off => some (.loc d off, st)
    | _ => none
  | .bin op x y => (binv op (st.val x) (st.val y)).map fun v => (v, st)
  | .eqs ag ks neg x y => (leqv ag ks (st.val x) (st.val y)).map fun b => (.bool (if neg then !b else b), st)
  | .un op x => (unv op (st.val x)).map fun v => (v, st)
  | .isnil neg x => match st.val x with
    | .sl _ _ [] => some (.abool, st)
    | .sl _ _ _ => some (.bool neg, st)
    | _ => none
  | .bytes x => match st.val x with
    | .str s => if s.size ≤ 1073741824 then some (.sl .s 1 (s.data.toList.map fun b => [.int .u8 b.toNat]), st) else none
    | _ => none
  | .rng x => match st.val x with
    | .mp .s es => some (.it [] es, st)
    | _ => none
  | .ent t => match st.at t with
    | .it [kv] _ => some (.tup [kv.1, kv.2], st)
    | _ => none
  | .slarr r n sz p => match st.raw p with
    | .ptr cs 0 => if cs.length = n * sz then some (.sl .s sz (rowsCut n sz cs), st) else none
    | .loc d 0 => if r = .bx d then match get st.bx d with
        | some (true, cs) => if cs.length = n * sz then some (.sl .s sz (rowsCut n sz cs), st) else none
        | _ => none
      else none
    | _ => none
  | .conv k x => match st.val x with
    | .int _ n => some (.int k (k.wrap n), st)
    | _ => none
  | .mkfn f roots fs cs => some (.fn f (vals st fs) (cs.map fun x => match st.raw x with
      | .loc d 0 => if roots.contains d then match get st.bx d with
        | some (true, c) => .ptr c 0
        | _ => .undef
        else .undef
      | .ptr c off => .ptr c off
      | _ => .undef), st)
  | .mkmap => some (.mp .x [], st)
  | .mksl sz bytes z n => match st.val n with
    | .int _ n => if 0 ≤ n ∧ n ≤ 9223372036854775807 ∧ z.length = sz ∧ room n.toNat bytes = true then some (.sl .x sz (List.replicate n.toNat z), st) else none
    | _ => none
  | .slcs x lo hi => match st.val x with
    | .str s => match st.optInt 0 lo, st.optInt s.size hi with
      | some l, some h => if 0 ≤ l ∧ l ≤ h ∧ h ≤ s.size then some (.str (s.extract l.toNat h.toNat), st) else none
      | _, _ => none
    | _ => none
  | .slc sz x lo hi mx => match st.val x with
    | .sl o sz' xs => match mx with
      | none => match st.optInt 0 lo, st.optInt xs.length hi with
        | some l, some h => if sz' = sz ∧ 0 ≤ l ∧ l ≤ h ∧ h ≤ xs.length ∧ (o = .s ∨ h = xs.length) then
            some (.sl o sz ((xs.take h.toNat).drop l.toNat), st.gone [x]) else none
        | _, _ => none
      | some m => match st.optInt 0 lo, st.optInt xs.length hi, st.ints m with
        | some 0, some 0, some 0 => if sz' = sz ∧ o = .s ∧ hi.isSome = true then some (.sl .x sz [], st.gone [x]) else none
        | _, _, _ => none
    | _ => none
  | .faddr r off p => match st.raw p with
    | .ptr cs o => some (.ptr cs (o + off), st)
    | .loc d o => some (.loc d (o + off), st)
    | .el t i o => if r = .tm t then match st.at t with
      | .sl .x _ _ => some (.el t i (o + off), st)
      | _ => none
      else none
    | _ => none
  | .fld ag sz off x => match st.val x with
    | .agg cs => (cut cs off sz).bind fun cs => (mkv ag cs).map fun v => (v, st)
    | _ => none
  | .iarr n sz p i => match st.raw p, st.val i with
    | .ptr cs o, .int _ k => if 0 ≤ k ∧ k < n then some (.ptr cs (o + k.toNat * sz), st) else none
    | .loc d o, .int _ k => if 0 ≤ k ∧ k < n then some (.loc d (o + k.toNat * sz), st) else none
    | _, _ => none
  | .iaddr r sz x i => match st.val x, st.val i with
    | .rf s, .int _ k => if r = .tm s then match st.at s with
      | .sl .x sz' xs => if sz' = sz ∧ 0 ≤ k ∧ k < xs.length then some (.el s k.toNat 0, st) else none
      | _ => none
      else none
    | .sl .s sz' xs, .int _ k => if sz' = sz ∧ 0 ≤ k then (xs[k.toNat]?).map fun c => (.ptr c 0, st) else none
    | _, _ => none
  | .idxs x i => match st.val x, st.val i with
    | .str s, .int _ k => if h : 0 ≤ k ∧ k.toNat < s.size then some (.int .u8 (s[k.toNat]'h.2).toNat, st) else none
    | _, _ => none
  | .idxa ag n sz x i => match st.val x, st.val i with
    | .agg cs, .int _ k => if 0 ≤ k ∧ k < n then (cut cs (k.toNat * sz) sz).bind fun cs => (mkv ag cs).map fun v => (v, st) else none
    | _, _ => none
  | .look r ag ks z ok m k => match st.deref r (st.val m) with
    | .mp _ es => if fits ag ks (st.val k) = true then (lookM ag ks (st.val k) es).map fun r =>
      (if ok then .tup [r.getD z, .bool r.isSome] else r.getD z, st) else none
    | _ => none
  | .mset r ag ks m k v => match st.val m, st.deref r (st.val m) with
    | .rf t, .mp .x es =>
      if fits ag ks (st.val k) = true ∧ (flat (cp (st.val v))).all leaf = true then (setM ag ks (st.val k) (cp (st.val v)) es).map fun es => (.undef, { st with tm := put st.tm t (.mp .x es) }) else none
    | _, _ => none
  | .ext i x => match st.raw x with
    | .tup vs => (vs[i]?).map fun v => (cp v, st)
    | _ => none
  | .len kd r x => match kd, st.deref r (st.val x) with
    | 0, .sl _ _ xs => some (.int .i64 xs.length, st)
    | 1, .str s => some (.int .i64 s.size, st)
    | 2, .mp _ es => some (.int .i64 es.length, st)
    | _, _ => none
  | .app sz bytes x y => match st.val x, st.val y with
    | .sl o sz' xs, .sl _ sz'' ys => if sz' = sz ∧ sz'' = sz ∧ o ≠ .s ∧ room (xs.length + ys.length) bytes = true ∧ (ys.all fun y => y.all leaf) = true then some (.sl o sz (xs ++ ys), st.gone [x, y]) else none
    | _, _ => none
  | .mx big xs => match asInts (vals st xs) with
    | some (k, n :: r) => some (.int k (r.foldl (fun a b => if big then (if a < b then b else a) else (if b < a then b else a)) n), st)
    | _ => none
  | .call f args => if (vals st args).all data = true then (call f (vals st args)).map fun v => (v, st.gone args) else none
  | .callv f args => match st.raw f with
    | .fn (.func g) [] cs => if g < 1000000 ∧ (vals st args).all data = true then (call g (vals st args ++ cs)).map fun v => (v, st.gone args) else none
    | _ => none

/-- Does no other slot name this slot's slice or map? -/
def noref (d : Nat) : List (Nat × V) → Bool
  | [] => true
  | (_, .el d' _ _) :: l => d' != d && noref d l
  | (_, .rf d') :: l => d' != d && noref d l
  | _ :: l => noref d l

/-- Operations that may give a pointer into a box or a slot's slice. -/
def ptrOp : MOp → Bool
  | .mv _ | .pick .. | .nilchk _ | .faddr .. | .iarr .. | .iaddr .. => true
  | _ => false

/-- An operation's value goes into its slot. -/
def into (p : Bool) (dst : Option Nat) (r : V × St) : Option St :=
  if p || data r.1 then match dst with
    | some d => match r.1 with
      | .sl .x _ _ | .mp .x _ => if noref d r.2.tm = true then some { r.2 with tm := put r.2.tm d r.1 } else none
      | v => some { r.2 with tm := put r.2.tm d v }
    | none => some r.2
  else none

/-- One operation with its guard. -/
def stepG (o : MO) (st : St) : Option St :=
  match o.guard with
  | none => (exec call o.op st).bind (into (ptrOp o.op) o.dst)
  | some (j, want) => match st.at j with
    | .bool b => if b = want then (exec call o.op st).bind (into (ptrOp o.op) o.dst) else into true o.dst (.skp, st)
    | .skp => into true o.dst (.skp, st)
    | _ => none

def incr : List (Nat × V) → Bool
  | (k, _) :: (k', v) :: l => decide (k < k') && incr ((k', v) :: l)
  | _ => true

/-- Where the order is free: no slot that is to be filled holds a name. -/
def tidy (ops : List MO) (st : St) : Bool := incr st.tm && ops.all fun o => match o.dst with
  | some d => data (st.at d)
  | none => true

/-- A new box in a slot. -/
def boxed (d : Nat) (st : St) (tm : List (Nat × V)) (c : List V) : Option St :=
  if away d tm = true ∧ c.all leaf = true then some { tm := put tm d (.loc d 0), bx := put st.bx d (false, c) } else none

def step (o : MO) (st : St) : Option St :=
  match o.op with
  | .alloc z => match o.dst, o.guard with
    | some d, none => boxed d st st.tm z
    | _, _ => none
  | .box sz x => match o.dst, o.guard with
    | some d, none => if (flat (st.val x)).length = sz then boxed d st (gone [x] st.tm) (flat (st.val x)) else none
    | _, _ => none
  | _ => stepG call o st

def dels (ks : List Nat) (st : St) : St := { tm := ks.foldl del st.tm, bx := ks.foldl del st.bx }

def steps : List MO → St → Option St
  | [], st => some st
  | o :: os, st => (step call o st).bind fun st => steps os st

inductive Ex where
  | normal
  | exit (id : Nat)
  | ret

def loopN (body : St → (Ex → St → Option V) → Option V) : Nat → St → (Ex → St → Option V) → Option V
  | 0, _, _ => none
  | n + 1, st, k => body st fun e st => match e with
    | .normal => loopN body n st k
    | e => k e st

open Classical in
noncomputable def lim (g : Nat → Option V) : Option V := if h : ∃ n r, g n = some r then g h.choose else none

open Classical in
noncomputable def same (x y : Option V) : Option V := if x = y then x else none

/-- Every choice gives the same. -/
noncomputable def allSame : List (Option V) → Option V
  | [] => none
  | [x] => x
  | x :: l => same x (allSame l)

/-- The iterator of slot t goes on to its i-th remaining entry; slot d says so. -/
def stepTo (d t : Nat) (es : List (V × V)) (st : St) (i : Nat) : St := match es[i]? with
  | some kv => { st with tm := put (put st.tm t (.it [kv] (es.eraseIdx i))) d (.tup [.bool true, kv.1, kv.2]) }
  | none => st

/-- The boxes that a round leaves to the function. -/
def St.back (st0 s : St) : St := { tm := st0.tm, bx := s.bx.filter fun p => (match get s.tm p.1 with | some (.loc d 0) => d == p.1 | _ => false) && (match get st0.tm p.1 with | some (.loc d 0) => d == p.1 | _ => false) }

/-- The rounds of a range over a function, for what it gives. -/
def rnds (round : List V → St → (Ex → St → Option V) → Option V) (st0 : St) : List V → St → (Ex → St → Option V) → Option V
  | [], st, k => k .normal st
  | .tup x :: xs, st, k => round x st fun e s => match e with
    | .normal => rnds round st0 xs (st0.back s) k
    | e => k e (st0.back s)
  | _ :: _, _, _ => none

/-- Is a value held by nothing? -/
def still : V → Bool
  | .sl .a .. | .sl .x .. | .mp .a _ | .mp .x _ | .tup _ | .it .. | .el .. | .rf _ => false
  | _ => true

/-- Values without memory. -/
def pure1 : V → Bool
  | .bool _ | .int .. | .str _ => true
  | _ => false
def pureV : V → Bool
  | .agg cs => cs.all pure1
  | v => pure1 v

def putAll : List Nat → List V → List (Nat × V) → List (Nat × V)
  | p :: ps, x :: xs, l => putAll ps xs (put l p x)
  | _, _, l => l

open Classical in
noncomputable def run : M → St → (Ex → St → Option V) → Option V
  | .skip, st, k => k .normal st
  | .reg draw ops, st, k => if !draw || tidy ops st then (steps call ops st).bind fun st => k .normal st else none
  | .seq a b, st, k => run a st fun e st => match e with
    | .normal => run b st k
    | e => k e st
  | .cond c t e, st, k => match st.val c with
    | .bool b => if b then run t st k else run e st k
    | .abool => same (run t st k) (run e st k)
    | _ => none
  | .block id b, st, k => run b st fun e st => match e with
    | .exit i => if i = id then k .normal st else k (.exit i) st
    | e => k e st
  | .loop b, st, k => lim fun n => loopN (run b) n st k
  | .exit id, st, k => k (.exit id) st
  | .scope b, st, k => run b st k
  | .ret, st, k => k .ret st
  | .freeze d, st, k => match get st.bx d with
    | some (_, c) => k .normal { st with bx := put st.bx d (true, cps c) }
    | none => none
  | .kill ks, st, k => k .normal (dels ks st)
  | .own o t, st, k => k .normal { st with tm := put st.tm t (low o (st.at t)) }
  | .nxt d t ops, st, k => match st.at t with
    | .it _ [] => (steps call ops { st with tm := put st.tm d (.tup [.bool false]) }).bind fun st => k .normal st
    | .it _ es => allSame ((List.range es.length).map fun i => (steps call ops (stepTo d t es st i)).bind fun st => k .normal st)
    | _ => none
  | .yld pre f args d post, st, k => (steps call pre st).bind fun st => match st.raw f, st.at 0 with
    | .raw u, .raw v => if u = v ∧ (vals st args).all pureV = true then
        match ((steps call post { st with tm := put st.tm d (.bool true) }).bind fun st => k .normal st), ((steps call post { st with tm := put st.tm d (.bool false) }).bind fun st => k .normal st) with
        | some (.tup l), some (.tup []) => some (.tup (.tup (vals st args) :: l))
        | _, _ => none
      else none
    | _, _ => none
  | .rngf f ps wr as body, st, k => match st.raw f with
    | .fn (.func g) [] cs => if (st.tm.all fun p => still p.2 && !wr.contains p.1 && !ps.contains p.1) = true then match call (g + 1000000) cs with
      | some (.tup xs) => rnds (fun x s k => if x.length = ps.length then run as { s with tm := putAll ps x st.tm } fun e s => match e with
          | .normal => run body s k
          | _ => none
        else none) st xs st k
      | _ => none
      else none
    | _ => none

end

def res1 (st : St) : RV → Option V
  | .tmp t => if data (st.at t) = true then some (st.at t) else none
  | .cell d ag sz => (st.cells (.bx d) (st.at d) sz).bind fun c => mkv ag (cps c)

def resAll (st : St) : List RV → Option (List V)
  | [] => some []
  | r :: rs => match res1 st r, resAll st rs with
    | some v, some vs => some (v :: vs)
    | _, _ => none

def resOf (st : St) (rs : List RV) : Option V :=
  match rs, resAll st rs with
  | [_], some [v] => some v
  | _, some vs => some (.tup vs)
  | _, none => none

def start (args : List V) : St := { tm := (args.zipIdx).map fun (v, i) => (i, v), bx := [] }

noncomputable def runF (call : FuncId → List V → Option V) (f : MFunc) (args : List V) : Option V :=
  if args.length = f.np then run call f.body (start args) fun e st => match e with
    | .exit _ => none
    | _ => resOf st f.res
  else none

inductive FDef where
  | none
  | code (f : MFunc)
  | prim (f : List V → Option V)
  | gen (f : MFunc)

abbrev Env := FuncId → FDef

inductive Pc (E : Env) : FuncId → List V → V → Prop
  | prim {f p args r} (h : E f = .prim p) (hr : p args = some r) : Pc E f args r
  | code {f mf args r} (call : FuncId → List V → Option V) (h : E f = .code mf) (hc : ∀ g a r, call g a = some r → Pc E g a r)
      (hr : runF call mf args = some r) : Pc E f args r
  | gen {f mf args r} (call : FuncId → List V → Option V) (h : E f = .gen mf) (hc : ∀ g a r, call g a = some r → Pc E g a r)
      (hr : ∀ fv, runF call mf (.raw fv :: args) = some r) : Pc E f args r

open Classical in
noncomputable def pc (E : Env) (f : FuncId) (args : List V) : Option V := if h : ∃ r, Pc E f args r then some h.choose else none

theorem same_some {x y : Option V} {r : V} (h : same x y = some r) : x = some r ∧ y = some r := by
  unfold same at h
  split at h
  · rename_i e; exact ⟨h, e ▸ h⟩
  · cases h

theorem allSame_some {r : V} : ∀ {l : List (Option V)}, allSame l = some r → l ≠ [] ∧ ∀ x ∈ l, x = some r
  | [], h => by cases h
  | [x], h => ⟨by simp, fun y hy => by simp at hy; subst hy; exact h⟩
  | x :: y :: l, h => by
    obtain ⟨h1, h2⟩ := same_some h
    refine ⟨by simp, fun z hz => ?_⟩
    rcases List.mem_cons.1 hz with h3 | h3
    · exact h3 ▸ h1
    · exact (allSame_some h2).2 z h3

/-! ### there is one answer -/
def Cmp (a b : Option V) : Prop := ∀ x y, a = some x → b = some y → x = y

def Cmp' (a b : Option St) : Prop := ∀ x y, a = some x → b = some y → x = y

theorem lim_cmp {g g' : Nat → Option V} (h : ∀ n m, Cmp (g n) (g' m)) : Cmp (lim g) (lim g') := by
  intro x y hx hy
  unfold lim at hx hy
  split at hx
  · split at hy
    · exact h _ _ x y hx hy
    · cases hy
  · cases hx

theorem lim_eq {g : Nat → Option V} (h : ∀ n m, Cmp (g n) (g m)) {n : Nat} {r : V} (hn : g n = some r) : lim g = some r := by
  unfold lim
  have hex : ∃ n r, g n = some r := ⟨n, r, hn⟩
  rw [dif_pos hex]
  obtain ⟨r', hr'⟩ := hex.choose_spec
  rw [hr', h _ _ _ _ hr' hn]

section
variable {call call' : FuncId → List V → Option V} (hc : ∀ f a, Cmp (call f a) (call' f a))
include hc

theorem exec_cmp (o : MOp) (st : St) (x y : V × St) (hx : exec call o st = some x) (hy : exec call' o st = some y) : x = y := by
  cases o
  case call f args =>
    simp only [exec] at hx hy
    split at hx
    · rename_i hd
      rw [if_pos hd] at hy
      simp only [Option.map_eq_some_iff] at hx hy
      obtain ⟨a, ha, rfl⟩ := hx
      obtain ⟨b, hb, rfl⟩ := hy
      rw [hc _ _ _ _ ha hb]
    · cases hx
  case callv f args =>
    simp only [exec] at hx hy
    generalize st.raw f = u at hx hy
    split at hx
    · split at hx
      · rename_i hd
        simp only at hy
        rw [if_pos hd] at hy
        simp only [Option.map_eq_some_iff] at hx hy
        obtain ⟨a, ha, rfl⟩ := hx
        obtain ⟨b, hb, rfl⟩ := hy
        rw [hc _ _ _ _ ha hb]
      · cases hx
    · cases hx
  all_goals
    simp only [exec] at hx hy
    rw [hx] at hy
    exact Option.some.inj hy

theorem stepG_cmp (o : MO) (st x y : St) (hx : stepG call o st = some x) (hy : stepG call' o st = some y) : x = y := by
  have key : ∀ op : MOp, ∀ f : V × St → Option St, Cmp' ((exec call op st).bind f) ((exec call' op st).bind f) := by
    intro op f a b ha hb
    simp only [Option.bind_eq_some_iff] at ha hb
    obtain ⟨u, hu, ha⟩ := ha
    obtain ⟨v, hv, hb⟩ := hb
    rw [exec_cmp hc op st u v hu hv, hb] at ha
    exact (Option.some.inj ha).symm
  unfold stepG at hx hy
  revert hx hy
  cases o.guard with
  | none => intro hx hy; exact key _ _ _ _ hx hy
  | some g =>
    obtain ⟨j, want⟩ := g
    simp only
    cases st.at j with
    | bool b =>
      simp only
      split
      · intro hx hy; exact key _ _ _ _ hx hy
      · intro hx hy; rw [hx] at hy; exact Option.some.inj hy
    | skp => intro hx hy; rw [hx] at hy; exact Option.some.inj hy
    | _ => intro hx; cases hx

theorem step_cmp (o : MO) (st x y : St) (hx : step call o st = some x) (hy : step call' o st = some y) : x = y := by
  obtain ⟨dst, op, guard⟩ := o
  cases op
  case alloc => simp only [step] at hx hy; rw [hx] at hy; exact Option.some.inj hy
  case box => simp only [step] at hx hy; rw [hx] at hy; exact Option.some.inj hy
  all_goals exact stepG_cmp hc _ _ _ _ hx hy

theorem steps_cmp : ∀ (os : List MO) (st x y : St), steps call os st = some x → steps call' os st = some y → x = y
  | [], st, x, y, hx, hy => by simp only [steps, Option.some.injEq] at hx hy; rw [← hx, ← hy]
  | o :: os, st, x, y, hx, hy => by
    simp only [steps, Option.bind_eq_some_iff] at hx hy
    obtain ⟨u, hu, hx⟩ := hx
    obtain ⟨v, hv, hy⟩ := hy
    rw [step_cmp hc o st u v hu hv] at hx
    exact steps_cmp os _ x y hx hy

omit hc in
theorem loopN_cmp {b b' : St → (Ex → St → Option V) → Option V} (hb : ∀ st k k', (∀ e s, Cmp (k e s) (k' e s)) → Cmp (b st k) (b' st k')) :
    ∀ (n m : Nat) (st : St) (k k' : Ex → St → Option V), (∀ e s, Cmp (k e s) (k' e s)) → Cmp (loopN b n st k) (loopN b' m st k')
  | 0, _, _, _, _, _ => fun _ _ hx => by cases hx
  | _ + 1, 0, _, _, _, _ => fun _ _ _ hy => by cases hy
  | n + 1, m + 1, st, k, k', hk => by
    simp only [loopN]
    refine hb st _ _ fun e s => ?_
    cases e with
    | normal => exact loopN_cmp hb n m s k k' hk
    | exit i => exact hk _ _
    | ret => exact hk _ _

omit hc in
theorem rnds_cmp {b b' : List V → St → (Ex → St → Option V) → Option V} (hb : ∀ x st k k', (∀ e s, Cmp (k e s) (k' e s)) → Cmp (b x st k) (b' x st k')) (st0 : St) :
    ∀ (xs : List V) (st : St) (k k' : Ex → St → Option V), (∀ e s, Cmp (k e s) (k' e s)) → Cmp (rnds b st0 xs st k) (rnds b' st0 xs st k')
  | [], _, _, _, hk => hk _ _
  | x :: xs, st, k, k', hk => by
    cases x with
    | tup x =>
      simp only [rnds]
      refine hb x st _ _ fun e s => ?_
      cases e with
      | normal => exact rnds_cmp hb st0 xs _ k k' hk
      | exit i => exact hk _ _
      | ret => exact hk _ _
    | _ => exact fun _ _ h => by simp only [rnds] at h; cases h

theorem run_cmp : ∀ (c : M) (st : St) (k k' : Ex → St → Option V), (∀ e s, Cmp (k e s) (k' e s)) → Cmp (run call c st k) (run call' c st k')
  | .skip, st, k, k', hk => hk _ _
  | .reg _ ops, st, k, k', hk => by
    intro x y hx hy
    simp only [run] at hx hy
    split at hx
    case isFalse => cases hx
    rename_i ht
    rw [if_pos ht] at hy
    simp only [Option.bind_eq_some_iff] at hx hy
    obtain ⟨u, hu, hx⟩ := hx
    obtain ⟨v, hv, hy⟩ := hy
    rw [steps_cmp hc ops st u v hu hv] at hx
    exact hk _ _ x y hx hy
  | .seq a b, st, k, k', hk => by
    simp only [run]
    refine run_cmp a st _ _ fun e s => ?_
    cases e with
    | normal => exact run_cmp b s k k' hk
    | exit i => exact hk _ _
    | ret => exact hk _ _
  | .cond c t e, st, k, k', hk => by
    simp only [run]
    cases st.val c with
    | bool b => cases b <;> simp <;> exact run_cmp _ st k k' hk
    | abool =>
      intro x y hx hy
      exact run_cmp t st k k' hk x y (same_some hx).1 (same_some hy).1
    | _ => intro x y hx; cases hx
  | .block id b, st, k, k', hk => by
    simp only [run]
    refine run_cmp b st _ _ fun e s => ?_
    cases e with
    | normal => exact hk _ _
    | exit i => by_cases h : i = id <;> simp [h] <;> exact hk _ _
    | ret => exact hk _ _
  | .loop b, st, k, k', hk => by
    simp only [run]
    exact lim_cmp fun n m => loopN_cmp (fun st k k' hk => run_cmp b st k k' hk) n m st k k' hk
  | .exit id, st, k, k', hk => hk _ _
  | .scope b, st, k, k', hk => by simp only [run]; exact run_cmp b st k k' hk
  | .ret, st, k, k', hk => hk _ _
  | .freeze d, st, k, k', hk => by
    simp only [run]
    split
    · exact hk _ _
    · intro x y hx; cases hx
  | .kill ks, st, k, k', hk => hk _ _
  | .own o t, st, k, k', hk => hk _ _
  | .nxt d t ops, st, k, k', hk => by
    intro x y hx hy
    have one : ∀ s x y, ((steps call ops s).bind fun st => k .normal st) = some x → ((steps call' ops s).bind fun st => k' .normal st) = some y → x = y := by
      intro s x y hx hy
      simp only [Option.bind_eq_some_iff] at hx hy
      obtain ⟨u, hu, hx⟩ := hx
      obtain ⟨v, hv, hy⟩ := hy
      rw [steps_cmp hc ops s u v hu hv] at hx
      exact hk _ _ x y hx hy
    simp only [run] at hx hy
    revert hx hy
    generalize st.at t = u
    cases u with
    | it cur es =>
      cases es with
      | nil => exact fun hx hy => one _ x y hx hy
      | cons e es =>
        intro hx hy
        have m1 := (allSame_some hx).2 _ (List.mem_map.2 ⟨0, List.mem_range.2 (by simp), rfl⟩)
        have m2 := (allSame_some hy).2 _ (List.mem_map.2 ⟨0, List.mem_range.2 (by simp), rfl⟩)
        exact one _ x y m1 m2
    | _ => intro hx; cases hx
  | .yld pre f args d post, st, k, k', hk => by
    have one : ∀ s x y, ((steps call post s).bind fun st => k .normal st) = some x → ((steps call' post s).bind fun st => k' .normal st) = some y → x = y := by
      intro s x y hx hy
      simp only [Option.bind_eq_some_iff] at hx hy
      obtain ⟨u, hu, hx⟩ := hx
      obtain ⟨v, hv, hy⟩ := hy
      rw [steps_cmp hc post s u v hu hv] at hx
      exact hk _ _ x y hx hy
    intro x y hx hy
    simp only [run, Option.bind_eq_some_iff] at hx hy
    obtain ⟨u, hu, hx⟩ := hx
    obtain ⟨v, hv, hy⟩ := hy
    rw [steps_cmp hc pre st u v hu hv] at hx
    split at hx
    · rename_i u0 v0 e1 e2
      rw [e1, e2] at hy
      simp only at hy
      split at hx
      · rename_i hcnd
        rw [if_pos hcnd] at hy
        split at hx
        · rename_i l1 h1 h2
          split at hy
          · rename_i l2 h3 h4
            cases hx; cases hy
            have := one _ _ _ h1 h3
            cases this; rfl
          · cases hy
        · cases hx
      · cases hx
    · cases hx
  | .rngf f ps wr as body, st, k, k', hk => by
    intro x y hx hy
    simp only [run] at hx hy
    revert hx hy
    generalize st.raw f = z
    cases z with
    | fn fn fs cs =>
      cases fn with
      | func g =>
        cases fs with
        | nil =>
          simp only
          split
          · intro hx hy
            split at hx
            · rename_i l1 h1
              split at hy
              · rename_i l2 h2
                have := hc _ _ _ _ h1 h2
                cases this
                refine rnds_cmp (fun x s k k' hk => ?_) _ _ _ _ _ hk x y hx hy
                split
                · refine run_cmp as _ _ _ fun e s => ?_
                  cases e with
                  | normal => exact run_cmp body s k k' hk
                  | exit i => exact fun _ _ h => by cases h
                  | ret => exact fun _ _ h => by cases h
                · exact fun _ _ h => by cases h
              · cases hy
            · cases hx
          · intro hx; cases hx
        | cons => intro hx; cases hx
      | _ => cases fs <;> (intro hx; cases hx)
    | _ => intro hx; cases hx

theorem runF_cmp (f : MFunc) (args : List V) : Cmp (runF call f args) (runF call' f args) := by
  unfold runF
  split
  · refine run_cmp hc f.body _ _ _ fun e s => ?_
    cases e <;> exact fun x y hx hy => by rw [hx] at hy; exact Option.some.inj hy
  · intro x y hx; cases hx

end

/-- A loop gives what some number of rounds gives. -/
theorem run_loop {call : FuncId → List V → Option V} {b : M} {st : St} {k : Ex → St → Option V} (n : Nat) {r : V} (h : loopN (run call b) n st k = some r) : run call (.loop b) st k = some r := by
  have hs : ∀ f a, Cmp (call f a) (call f a) := fun f a x y hx hy => by rw [hx] at hy; exact Option.some.inj hy
  have hk : ∀ e s, Cmp (k e s) (k e s) := fun e s x y hx hy => by rw [hx] at hy; exact Option.some.inj hy
  simp only [run]
  exact lim_eq (fun n m => loopN_cmp (fun st k k' hk => run_cmp hs b st k k' hk) n m st k k hk) h

theorem Pc.unique {E : Env} {f args r} (h : Pc E f args r) : ∀ r', Pc E f args r' → r = r' := by
  induction h with
  | prim h hr =>
    intro r' h'
    cases h' with
    | prim h' hr' => rw [h] at h'; cases h'; rw [hr] at hr'; exact Option.some.inj hr'
    | code call h' _ _ => rw [h] at h'; cases h'
    | gen call h' _ _ => rw [h] at h'; cases h'
  | code call h hc hr ih =>
    intro r' h'
    cases h' with
    | prim h' hr' => rw [h] at h'; cases h'
    | code call' h' hc' hr' =>
      rw [h] at h'; cases h'
      exact runF_cmp (fun f a x y hx hy => ih f a x hx y (hc' f a y hy)) _ _ _ _ hr hr'
    | gen call' h' _ _ => rw [h] at h'; cases h'
  | gen call h hc hr ih =>
    intro r' h'
    cases h' with
    | prim h' hr' => rw [h] at h'; cases h'
    | code call' h' _ _ => rw [h] at h'; cases h'
    | gen call' h' hc' hr' =>
      rw [h] at h'; cases h'
      exact runF_cmp (fun f a x y hx hy => ih f a x hx y (hc' f a y hy)) _ _ _ _ (hr Go.undef) (hr' Go.undef)

theorem Pc.pc {E : Env} {f args r} (h : Pc E f args r) : Vi.pc E f args = some r := by
  unfold Vi.pc
  have hex : ∃ r, Pc E f args r := ⟨r, h⟩
  rw [dif_pos hex, h.unique _ hex.choose_spec]

theorem pc_spec {E : Env} {f args r} (h : Vi.pc E f args = some r) : Pc E f args r := by
  unfold Vi.pc at h
  split at h
  · rename_i hex; cases h; exact hex.choose_spec
  · cases h

/-- What a function's code gives is what the function gives. -/
theorem pc_code {E : Env} {f mf args r} (h : E f = .code mf) (hr : runF (pc E) mf args = some r) : pc E f args = some r :=
  (Pc.code (pc E) h (fun _ _ _ h => pc_spec h) hr).pc

/-- What an iterator's code gives, whatever the function is that it hands on to. -/
theorem pc_gen {E : Env} {f mf args r} (h : E f = .gen mf) (hr : ∀ fv, runF (pc E) mf (.raw fv :: args) = some r) : pc E f args = some r :=
  (Pc.gen (pc E) h (fun _ _ _ h => pc_spec h) hr).pc

theorem pc_prim {E : Env} {f p args r} (h : E f = .prim p) (hr : p args = some r) : pc E f args = some r := (Pc.prim h hr).pc

end Go.Vi
