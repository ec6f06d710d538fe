/- The interpreter, second part: what it does. -/
import Derived.Test.YtoiacgfhjikddaaWA
set_option linter.unusedSimpArgs false
set_option linter.unusedVariables false
namespace Go.Proofs.Ytoiacgfhjikddaa.W
open Go.RowKit Vc

/-- What comes of a code: branches, what must hold, what a call may bring, and the result. -/
inductive T (R : Type) : Type 1 where
  | stop (n : Nat)
  | done
  | ret (y : R)
  | br (b : Bool) (t f : T R)
  | chk (p : Prop) (t : T R)
  | both (t f : T R)
  | all (X : Type) (d : X) (post : X → Prop) (k : X → T R)
def PIf (b : Bool) (A B : Prop) : Prop := match b with | true => A | false => B
def T.ok {R : Type} (Q : R → Prop) : T R → Prop
  | .stop _ => False
  | .done => True
  | .ret y => Q y
  | .br b t f => PIf b (t.ok Q) (f.ok Q)
  | .chk p t => p ∧ t.ok Q
  | .both t f => t.ok Q ∧ f.ok Q
  | .all X _ post k => ∀ x : X, post x → (k x).ok Q

/-- What a function does: it brings one value, or one of some. -/
inductive Out (R : Type) where
  | val (y : R)
  | rel (post : R → Prop)
structure Spec where
  rk : List K
  pre : Prop
  out : Out (Els rk)
structure Ct where
  f : Nat
  ks : List K
  sp : Els ks → Spec
/-- What changes in a loop: a temporary, or the variable that one points to. -/
inductive Pl where
  | t (d k : Nat)
  | x (d k : Nat)
structure Ann where
  f : Nat
  r : Nat
  pl : List (Pl × K)
  keep : List (Nat × Nat)
  inv : El (tupK (pl.map (·.2))) → El (tupK (pl.map (·.2))) → Prop
  mu : El (tupK (pl.map (·.2))) → El (tupK (pl.map (·.2))) → Nat
/-- Where ways meet, behind a piece of code: what is known ahead of it, what may turn in it, what else is kept, and what holds behind it. -/
structure Jn where
  f : Nat
  r : Nat
  pp : List (Pl × K)
  pl : List (Pl × K)
  keep : List (Nat × Nat)
  inv : El (tupK (pp.map (·.2))) → El (tupK (pl.map (·.2))) → Prop
structure Cf where
  P : Program
  inl : List (Nat × Func)
  ct : List Ct
  an : List Ann
  jn : List Jn

def findC : List Ct → Nat → Option Ct
  | [], _ => none
  | c :: r, f => bif Nat.beq c.f f then some c else findC r f
def findI : List (Nat × Func) → Nat → Option Func
  | [], _ => none
  | c :: r, f => bif Nat.beq c.1 f then some c.2 else findI r f
def findN : List Ann → Nat → Nat → Option Ann
  | [], _, _ => none
  | a :: l, f, r => bif Nat.beq a.f f && Nat.beq a.r r then some a else findN l f r

def findJ : List Jn → Nat → Nat → Option Jn
  | [], _, _ => none
  | a :: l, f, r => bif Nat.beq a.f f && Nat.beq a.r r then some a else findJ l f r
/-- The state at the first end of a tree. -/
def leafS {R : Type} : T R → Option R
  | .ret s => some s
  | .br _ t f => (match leafS t with | some s => some s | none => leafS f)
  | .chk _ t => leafS t
  | .both t f => (match leafS t with | some s => some s | none => leafS f)
  | .all _ d _ k => leafS (k d)
  | _ => none
def AS.get (s : AS) (k : Nat) : Option AV := lookA s.tm k
def AS.put (s : AS) (d : Option Nat) (a : AV) : AS :=
  match s with
  | ⟨n, tm, fr, lo, ow, nx⟩ => (match d with
    | none => ⟨n, tm, fr, lo, ow, nx⟩
    | some d => bif Nat.blt d n then ⟨n, (d, a) :: tm, fr, lo, ow, nx⟩ else ⟨n, tm, fr, lo, ow, nx⟩)
theorem AS.put_none (s : AS) (a : AV) : s.put none a = s := by cases s; rfl
theorem AS.put_some (s : AS) (d : Nat) (a : AV) : s.put (some d) a = bif Nat.blt d s.n then { s with tm := (d, a) :: s.tm } else s := by cases s; rfl
/-- A state, written out first. -/
def forceA {α : Type 1} (s : AS) (k : AS → α) : α := match s with | ⟨n, tm, fr, lo, ow, nx⟩ => k ⟨n, tm, fr, lo, ow, nx⟩
theorem forceA_eq {α : Type 1} (s : AS) (k : AS → α) : forceA s k = k s := by cases s; rfl
def AS.ev (s : AS) : Operand → Option AV
  | .tmp t => s.get t
  | .const x => some (.v x)
  | .global g => some (.v (.pointer (some ⟨g, 0, none⟩)))
  | .func f => some (.fn f [])
def AS.evs (s : AS) : List Operand → Option (List AV)
  | [] => some []
  | x :: r => match s.ev x with | some a => (match s.evs r with | some l => some (a :: l) | none => none) | none => none
def AS.plain (s : AS) (x : Operand) : Option Value := match s.ev x with | some (.v y) => some y | _ => none
def AS.rho (s : AS) (x : Operand) : Value := match s.plain x with | some y => y | none => undef
def AS.allPlain (s : AS) : List Operand → Bool
  | [] => true
  | x :: r => (s.plain x).isSome && s.allPlain r
def pureA (P : Program) (s : AS) (o : Oper) : Option AV :=
  bif isSelect o.op then none else bif s.allPlain o.op.operands.toList then
    (match pv P (execOp s.rho o) with | some (.value x) => some (.v x) | _ => none) else none
def cellsOf (s : AS) (i : Nat) : Option (List AV) := match s.lo[i]? with | some l => some l.cs | none => none
def lend : AV → AV
  | .sl _ k l => .sl 0 k l
  | a => a
def encQ (q : Nat) (k : K) (x : El k) : List AV := bif Nat.beq q 0 then (enc k x).map lend else enc k x

def loadC (P : Program) (t : Nat) (cs : List AV) (off : Nat) : Option AV :=
  match P.underlying t with
  | some d => bif isAggD d then (match P.info? t with | some i => (match seg cs off i.size with | some l => some (.ag l) | none => none) | none => none) else cell cs off
  | none => none
/-- The bytes that an array is, at a place. -/
def bytesAt (cs : List AV) (off : Nat) : Option (Nat × List Int) := match skip cs off with | some (.by_ n l :: _) => some (n, l) | _ => none
def eqFsT (P : Program) (rec : Nat → AV → AV → Option Bool) (xs ys : List AV) : List Field → Option Bool
  | [] => some true
  | f :: r =>
    bif f.name == "_" then eqFsT P rec xs ys r else
    (match loadC P f.type xs f.offset, loadC P f.type ys f.offset with
     | some a, some b => (match rec f.type a b, eqFsT P rec xs ys r with | some p, some q => some (p && q) | _, _ => none)
     | _, _ => none)
/-- '==' of values of a type. -/
def eqT (P : Program) : Nat → Nat → AV → AV → Option Bool
  | 0, _, _, _ => none
  | d + 1, t, x, y =>
    match P.underlying t with
    | some .bool => (match x, y with | .v (.bool a), .v (.bool b) => some (a == b) | _, _ => none)
    | some (.int _) => (match x, y with | .v (.int k a), .v (.int k' b) => if k = k' then some (a == b) else none | _, _ => none)
    | some (.struct fs) => (match x, y with | .ag xs, .ag ys => bif P.stoodInHeld t then none else eqFsT P (eqT P d) xs ys fs.toList | _, _ => none)
    | some (.array n el) => (match x, y, d with | .ag [.by_ n1 l1], .ag [.by_ n2 l2], _ + 1 => bif Nat.beq n1 n && Nat.beq n2 n && u8T P el && cellsW P el 1 then some (decide (l1 = l2)) else none | _, _, _ => none)
    | _ => none
def numV : Option AV → Option Int
  | some (.v (.int _ n)) => some n
  | _ => none
def numO (s : AS) : Option Operand → Option (Option Int)
  | none => some none
  | some x => (match numV (s.ev x) with | some n => some (some n) | none => none)
/-- The bounds of a slice of so many elements: what must be, and which they are. -/
def bnds (n : Nat) : Option Int → Option Int → Option Int → Bool × Nat × Nat
  | none, none, none => (true, 0, n)
  | some a, none, none => (decide (0 ≤ a) && decide (a ≤ n), a.toNat, n)
  | none, some b, none => (decide (0 ≤ b) && decide (b ≤ n), 0, b.toNat)
  | some a, some b, none => (decide (0 ≤ a) && decide (a ≤ b) && decide (b ≤ n), a.toNat, b.toNat)
  | none, some b, some c => (decide (0 ≤ b) && decide (b ≤ n) && decide (c = b), 0, b.toNat)
  | _, _, some _ => (false, 0, n)
def sub {α : Type} (l : List α) (lo hi : Option Int) : List α :=
  match lo, hi with
  | none, none => l
  | some a, none => l.drop a.toNat
  | none, some b => l.take b.toNat
  | some a, some b => (l.take b.toNat).drop a.toNat
def partsA (s : AS) : List (Nat × Operand) → Option (List (Nat × AV))
  | [] => some []
  | (i, x) :: r => (match s.ev x with | some a => (match partsA s r with | some l => some ((i, a) :: l) | none => none) | none => none)
/-- A struct or an array, put together. -/
def fillA (pl : Nat → Option (Nat × Nat)) : List AV → List (Nat × AV) → Option (List AV)
  | cs, [] => some cs
  | cs, (i, a) :: r => (match pl i, cellsA a with
    | some (off, w), some xs => bif Nat.beq (widths xs) w then (match (match wrW cs off xs w with | some l => some l | none => (match xs with | [.v (.int .u8 z)] => wrB cs off z | _ => none)) with | some cs' => fillA pl cs' r | none => none) else none
    | _, _ => none)
def evLoad (P : Program) (s : AS) (t : TypeId) : AV → Option (Bool × AV)
  | .lp i off => (match cellsOf s i with | some cs => (match loadC P t cs off with | some a => some (true, a) | none => none) | none => none)
  | .fp q k x off => (match loadC P t (encQ q k x) off with | some a => some (true, a) | none => none)
  | .op m _ j off => (match findO s.ow m with | some o => (match loadC P t (enc o.k (o.l.getD j (dft o.k))) off with | some a => some (Nat.blt j o.l.length, a) | none => none) | none => none)
  | .lb i off n j => (match aggT P t, cellsOf s i with | some false, some cs => (match bytesAt cs off with | some (n', l) => bif Nat.beq n n' then some (decide (j < n), .v (.int .u8 (l.getD j.toNat 0))) else none | none => none) | _, _ => none)
  | _ => none
def evFAddr (o : Nat) : AV → Option (Bool × AV)
  | .lp i off => some (true, .lp i (off + o))
  | .fp q k x off => some (true, .fp q k x (off + o))
  | .op m w j off => some (true, .op m w j (off + o))
  | _ => none
def evIdx (P : Program) (s : AS) (t : TypeId) (n : Int) : AV → Option (Bool × AV)
  | .sl q k l => bif slT P t (wd k) then some (decide (0 ≤ n) && decide (n < l.length), .fp q k (l.getD n.toNat (dft k)) 0) else none
  | .ov m => (match findO s.ow m with | some o => bif slT P t (wd o.k) then some (decide (0 ≤ n) && decide (n < o.l.length), .op m (wd o.k) n.toNat 0) else none | none => none)
  | .os m w lo hi => (match findO s.ow m with | some _ => bif slT P t w then some (decide (0 ≤ n) && decide (n < (hi - lo : Nat)), .op m w (lo + n.toNat) 0) else none | none => none)
  | .lp i off =>
    (match P.underlying t with
     | some (.array len e) => (match cellsOf s i with
       | some cs => (match bytesAt cs off with
         | some (n', _) => bif Nat.beq len n' && cellsW P e 1 then some (decide (0 ≤ n) && decide (n < len), .lb i off len n) else none
         | none => (match P.info? e with | some inf => some (decide (0 ≤ n) && decide (n < len), .lp i (off + n.toNat * inf.size)) | none => none))
       | none => none)
     | _ => none)
  | _ => none
def slQ (q : Nat) (mx : Option Int) : Nat := bif Nat.beq q 0 then 0 else (match mx with | some _ => 2 | none => 1)
def evSlice (P : Program) (s : AS) (t : TypeId) (lo hi mx : Option Int) : AV → Option (Bool × AV)
  | .sl q k l => bif slT P t (wd k) then some ((bnds l.length lo hi mx).1, .sl (slQ q mx) k (sub l lo hi)) else none
  | .ov m => (match findO s.ow m, mx with | some o, none => bif slT P t (wd o.k) then some ((bnds o.l.length lo hi none).1, .os m (wd o.k) (bnds o.l.length lo hi none).2.1 (bnds o.l.length lo hi none).2.2) else none | _, _ => none)
  | .lp i off =>
    (match lo, hi, mx, cellsOf s i, P.underlying t with
     | none, none, none, some cs, some (.array len e) => (match bytesAt cs off with | some (n, _) => bif Nat.beq n len && cellsW P e 1 then some (true, .ls i off n) else none | none => none)
     | _, _, _, _, _ => none)
  | .fp q k x off =>
    (match lo, hi, mx, P.underlying t with
     | none, none, none, some (.array len e) => (match bytesAt (encQ q k x) off with | some (n, l) => bif Nat.beq n len && cellsW P e 1 then some (true, .sl (slQ q none) (.i .u8) l) else none | none => none)
     | _, _, _, _ => none)
  | .v y => bif isNilS y && slT P t 1 then (match lo, hi, mx with | none, none, none => some (true, .v y) | _, _, _ => none) else none
  | _ => none
def evLen (P : Program) (s : AS) (t : TypeId) (o : Oper) : AV → Option (Bool × AV)
  | .sl _ k l => bif slT P t (wd k) then some (true, .v (.int .i64 l.length)) else none
  | .ov m => (match findO s.ow m with | some o => bif slT P t (wd o.k) then some (true, .v (.int .i64 o.l.length)) else none | none => none)
  | .os m w lo hi => (match findO s.ow m with | some _ => bif slT P t w then some (true, .v (.int .i64 (hi - lo : Nat))) else none | none => none)
  | .ls _ _ n => bif slT P t 1 then some (true, .v (.int .i64 n)) else none
  | .v _ => (match pureA P s o with | some a => some (true, a) | none => none)
  | _ => none
def tt : Option AV → Option (Bool × AV)
  | some a => some (true, a)
  | none => none
def evPick : AV → AV → AV → Option AV
  | .v (.bool c), .v (.bool x), .v (.bool y) => some (.v (.bool (cond c x y)))
  | .v (.bool true), a, _ => some a
  | .v (.bool false), _, a => some a
  | _, _, _ => none
def evNil (P : Program) (s : AS) (o : Oper) : AV → Option AV
  | .v _ => pureA P s o
  | .lp i off => some (.lp i off)
  | .fp q k x off => some (.fp q k x off)
  | .op m w j off => some (.op m w j off)
  | .fn f c => some (.fn f c)
  | _ => none
def evBin (P : Program) (s : AS) (o : Oper) (op : BinOp) (t : TypeId) : AV → AV → Option AV
  | .ag a, .ag b =>
    bif P.eqGuardType P.depth t then none else
    (match op, eqT P Op.maxDepth t (.ag a) (.ag b) with
     | .eql, some e => some (.v (.bool e))
     | .neq, some e => some (.v (.bool !e))
     | _, _ => none)
  | _, _ => pureA P s o
/-- Operations on numbers that may fail. -/
def evArith (op : BinOp) (k k' : IntKind) (a b : Int) : Option (Bool × Int) :=
  match op with
  | .shl => some (decide (0 ≤ b), k.wrap (a * 2 ^ min b.toNat k.bits))
  | .shr => some (decide (0 ≤ b), a.fdiv (2 ^ min b.toNat k.bits))
  | .quo => if k = k' then some (!decide (b = 0), k.wrap (a.tdiv b)) else none
  | .rem => if k = k' then some (!decide (b = 0), a.tmod b) else none
  | _ => none
def arA (op : BinOp) : AV → AV → Option (Bool × AV)
  | .v (.int k a), .v (.int k' b) => (match evArith op k k' a b with | some (c, n) => some (c, .v (.int k n)) | none => none)
  | _, _ => none
def evBin2 (P : Program) (s : AS) (o : Oper) (op : BinOp) (t : TypeId) (a b : AV) : Option (Bool × AV) :=
  match arA op a b with
  | some r => some r
  | none => (match evBin P s o op t a b with | some a => some (true, a) | none => none)
def evBuildA (P : Program) (s : AS) (t e : TypeId) (ps : List (Nat × Operand)) : Option AV :=
  match zeroA P 9 t, P.info? e, partsA s ps with
  | some z, some inf, some l => (match fillA (fun i => some (i * inf.size, inf.size)) z l with | some cs => some (.ag cs) | none => none)
  | _, _, _ => none
def evBuildS (P : Program) (s : AS) (t : TypeId) (ps : List (Nat × Operand)) : Option AV :=
  match zeroA P 9 t, pv P (bldS t), partsA s ps with
  | some z, some (_, pl), some l => (match fillA (pl[·]?) z l with | some cs => some (.ag cs) | none => none)
  | _, _, _ => none
def evBuild (P : Program) (s : AS) (t : TypeId) (ps : List (Nat × Operand)) : Option AV :=
  match P.underlying t with
  | some (.array _ e) => evBuildA P s t e ps
  | _ => evBuildS P s t ps
def evField (P : Program) (t : TypeId) (f : Nat) : AV → Option AV
  | .ag cs => (match fieldAt? P t f with
    | some (o, w, true) => (match seg cs o w with | some l => some (.ag l) | none => none)
    | some (o, _, false) => cell cs o
    | none => none)
  | _ => none
def evConv (P : Program) (s : AS) (o : Oper) (a b : TypeId) : AV → Option AV
  | .sl _ (.i .u8) l => bif stT P a b then some (.v (.string (strOf l))) else none
  | .v _ => pureA P s o
  | _ => none
def evToArr (P : Program) (t : TypeId) : AV → Option (Bool × AV)
  | .sl q (.i .u8) l => (match P.underlying t with | some (.array (n + 1) _) => some (decide (n + 1 ≤ l.length), .fp q (.a8 (n + 1)) (l.take (n + 1)) 0) | _ => none)
  | _ => none
def evExt (k : Nat) : AV → Option AV
  | .tup vs => vs[k]?
  | _ => none
/-- The value of an operation that leaves all as it is, and what must be. -/
def evQ (P : Program) (s : AS) (o : Oper) : Option (Bool × AV) :=
  match o.op with
  | .move x => tt (s.ev x)
  | .assign x => tt (s.ev x)
  | .pick c x y => (match s.ev c, s.ev x, s.ev y with | some c, some x, some y => tt (evPick c x y) | _, _, _ => none)
  | .load t x => (match s.ev x with | some p => evLoad P s t p | none => none)
  | .fieldAddr t x f => (match fieldAt? P t f, s.ev x with | some (o, _ + 1, _), some p => evFAddr o p | _, _ => none)
  | .field t x f => (match s.ev x with | some a => tt (evField P t f a) | none => none)
  | .indexAddr t x i => (match s.ev x, numV (s.ev i) with | some a, some n => evIdx P s t n a | _, _ => none)
  | .nilCheck x => (match s.ev x with | some a => tt (evNil P s o a) | none => none)
  | .extract x k => (match s.ev x with | some a => tt (evExt k a) | none => none)
  | .makeFunc fn first caps => (match fn, first.toList, s.evs caps.toList with | .func f, [], some l => some (true, .fn f l) | _, _, _ => none)
  | .build t ps => tt (evBuild P s t ps.toList)
  | .binOp op t x y _ => (match s.ev x, s.ev y with | some a, some b => evBin2 P s o op t a b | _, _ => none)
  | .slice t x lo hi mx => (match numO s lo, numO s hi, numO s mx, s.ev x with | some lo, some hi, some mx, some a => (match evSlice P s t lo hi mx a with | some r => some r | none => tt (pureA P s o)) | _, _, _, _ => none)
  | .sliceToArrayPointer t x => (match s.ev x with | some a => evToArr P t a | none => none)
  | .convert a b x => (match s.ev x with | some z => tt (evConv P s o a b z) | none => none)
  | .unOp _ _ _ => tt (pureA P s o)
  | .index _ _ _ => tt (pureA P s o)
  | .call c =>
    (match c.callee, c.args.toList, c.argTypes.toList with
     | .builtin .len, [x], [t] => (match s.ev x with | some a => evLen P s t o a | none => none)
     | .builtin .min, _, _ => tt (pureA P s o)
     | .builtin .max, _, _ => tt (pureA P s o)
     | .builtin .cap, _, _ => tt (pureA P s o)
     | _, _, _ => none)
  | _ => none

/-! ### What changes -/
mutual
/-- Without what is said of a slice of one's own. -/
def pg (m : Nat) : AV → AV
  | .ov m' => bif Nat.beq m m' then .bad else .ov m'
  | .os m' w lo hi => bif Nat.beq m m' then .bad else .os m' w lo hi
  | .op m' w j off => bif Nat.beq m m' then .bad else .op m' w j off
  | .fn f c => .fn f (pgs m c)
  | .ag c => .ag (pgs m c)
  | .tup c => .tup (pgs m c)
  | a => a
def pgs (m : Nat) : List AV → List AV
  | [] => []
  | a :: r => pg m a :: pgs m r
end
mutual
/-- One's own is one's own no more. -/
def fz (o : OA) : AV → AV
  | .ov m' => bif Nat.beq o.m m' then .sl 1 o.k o.l else .ov m'
  | .os m' w lo hi => bif Nat.beq o.m m' then .sl 1 o.k ((o.l.drop lo).take (hi - lo)) else .os m' w lo hi
  | .op m' w j off => bif Nat.beq o.m m' then .bad else .op m' w j off
  | .fn f c => .fn f (fzs o c)
  | .ag c => .ag (fzs o c)
  | .tup c => .tup (fzs o c)
  | a => a
def fzs (o : OA) : List AV → List AV
  | [] => []
  | a :: r => fz o a :: fzs o r
end
def onTm (g : AV → AV) : List (Nat × AV) → List (Nat × AV)
  | [] => []
  | (k, a) :: r => (k, g a) :: onTm g r
def onFr (g : AV → AV) : List (Nat × List (Nat × AV)) → List (Nat × List (Nat × AV))
  | [] => []
  | (n, l) :: r => (n, onTm g l) :: onFr g r
def onLo (g : List AV → List AV) : List LO → List LO
  | [] => []
  | l :: r => ⟨g l.cs, l.e⟩ :: onLo g r
end Go.Proofs.Ytoiacgfhjikddaa.W
