/- The interpreter, first part: kinds of what variables hold, values of them, and abstract values. -/
import Derived.Test.YtoiacgfhjikddaaWK0
set_option linter.unusedSimpArgs false
set_option linter.unusedVariables false
namespace Go.Proofs.Ytoiacgfhjikddaa.W
open Go.RowKit Vc

/-- Kinds: bool, number, string, bytes in an array, slice that is kept, slice that is lent, slice that is new (its element's type), nothing, a pair. -/
inductive K where
  | b | i (k : IntKind) | s | a8 (n : Nat) | sl (k : K) | sb (k : K) | sn (e : Nat) (k : K) | u | p (x y : K)
  deriving DecidableEq, Inhabited
@[reducible] def El : K → Type
  | .b => Bool
  | .i _ => Int
  | .s => ByteArray
  | .a8 _ => List Int
  | .sl k => List (El k)
  | .sb k => List (El k)
  | .sn _ k => List (El k)
  | .u => Unit
  | .p x y => El x × El y
def dft : (k : K) → El k
  | .b => false
  | .i _ => (0 : Int)
  | .s => ByteArray.empty
  | .a8 n => List.replicate n (0 : Int)
  | .sl _ => []
  | .sb _ => []
  | .sn _ _ => []
  | .u => ()
  | .p x y => (dft x, dft y)
/-- How many cells. -/
def wd : K → Nat
  | .a8 n => n
  | .u => 0
  | .p x y => wd x + wd y
  | _ => 1
/-- Is it many cells, whatever their number? -/
def agK : K → Bool
  | .a8 _ => true
  | .u => true
  | .p _ _ => true
  | _ => false
@[reducible] def tupK : List K → K
  | [] => .u
  | k :: r => match r with | [] => k | _ => .p k (tupK r)
def noSn : K → Bool
  | .sn _ _ => false
  | .p x y => noSn x && noSn y
  | _ => true
abbrev Els (ks : List K) : Type := El (tupK ks)

/-- Abstract values, by what they hold. -/
inductive AV where
  | v (x : Value)
  | by_ (n : Nat) (l : List Int)
  | sl (q : Nat) (k : K) (l : List (El k))
  | fp (q : Nat) (k : K) (x : El k) (off : Nat)
  | lp (i off : Nat)
  | lb (i off n : Nat) (j : Int)
  | ls (i off n : Nat)
  | ov (m : Nat)
  | os (m w lo hi : Nat)
  | op (m w j off : Nat)
  | fn (f : Nat) (caps : List AV)
  | ag (cs : List AV)
  | tup (vs : List AV)
  | bad
  deriving Inhabited

/-- The cells of a value of a kind. -/
def enc : (k : K) → El k → List AV
  | .b, x => [.v (.bool x)]
  | .i k, x => [.v (.int k x)]
  | .s, x => [.v (.string x)]
  | .a8 n, l => [.by_ n l]
  | .sl k, l => [.sl 1 k l]
  | .sb k, l => [.sl 0 k l]
  | .sn e k, l => [.sl (e + 3) k l]
  | .u, _ => []
  | .p x y, z => enc x z.1 ++ enc y z.2
/-- A value of a kind, as one. -/
def pack (k : K) (x : El k) : AV := bif agK k then .ag (enc k x) else (match enc k x with | a :: _ => a | [] => .bad)
def packs : (ks : List K) → Els ks → List AV
  | [], _ => []
  | k :: r, x => match r, x with
    | [], x => [pack k x]
    | k' :: r', x => pack k x.1 :: packs (k' :: r') x.2

def cw : AV → Nat
  | .by_ n _ => n
  | _ => 1
/-- Cells from a place on. -/
def skip : List AV → Nat → Option (List AV)
  | cs, 0 => some cs
  | [], _ + 1 => none
  | a :: r, n + 1 => bif Nat.ble (cw a) (n + 1) then skip r (n + 1 - cw a) else none
/-- The first cells. -/
def takeW : List AV → Nat → Option (List AV)
  | _, 0 => some []
  | [], _ + 1 => none
  | a :: r, n + 1 => bif Nat.ble (cw a) (n + 1) then (match takeW r (n + 1 - cw a) with | some l => some (a :: l) | none => none) else none
def seg (cs : List AV) (off n : Nat) : Option (List AV) := match skip cs off with | some l => takeW l n | none => none
/-- One cell. -/
def cell : List AV → Nat → Option AV
  | [], _ => none
  | a :: r, j => match a with
    | .by_ n l => bif Nat.blt j n then some (.v (.int .u8 (l.getD j 0))) else cell r (j - n)
    | a => match j with | 0 => some a | j + 1 => cell r j
/-- Cells written over others. -/
def wrW : List AV → Nat → List AV → Nat → Option (List AV)
  | cs, 0, xs, n => (match skip cs n with | some r => some (xs ++ r) | none => none)
  | [], _ + 1, _, _ => none
  | a :: r, o + 1, xs, n => bif Nat.ble (cw a) (o + 1) then (match wrW r (o + 1 - cw a) xs n with | some l => some (a :: l) | none => none) else none
/-- A byte written. -/
def wrB : List AV → Nat → Int → Option (List AV)
  | [], _, _ => none
  | a :: r, j, z => match a with
    | .by_ n l => bif Nat.blt j n then some (.by_ n (l.set j z) :: r) else (match wrB r (j - n) z with | some q => some (a :: q) | none => none)
    | a => match j with | 0 => none | j + 1 => (match wrB r j z with | some q => some (a :: q) | none => none)
def cellsA : AV → Option (List AV)
  | .ag cs => some cs
  | .v x => bif oneC x then some [.v x] else none
  | .tup _ => none
  | .bad => none
  | .by_ _ _ => none
  | a => some [a]
def widths : List AV → Nat
  | [] => 0
  | a :: r => cw a + widths r

/-- A slice that the call made: its name, its element's type and kind, what it holds. -/
structure OA where
  m : Nat
  e : TypeId
  k : K
  l : List (El k)
structure LO where
  cs : List AV
  e : TypeId
  deriving Inhabited
abbrev Box := LO
structure AS where
  n : Nat
  tm : List (Nat × AV)
  fr : List (Nat × List (Nat × AV))
  lo : List LO
  ow : List OA
  nx : Nat

def lookA : List (Nat × AV) → Nat → Option AV
  | [], _ => none
  | (k, s) :: r, j => bif Nat.beq k j then some s else lookA r j
def dropA : List (Nat × AV) → Nat → List (Nat × AV)
  | [], _ => []
  | (k, s) :: r, j => bif Nat.beq k j then r else (k, s) :: dropA r j
def findA : List OA → Nat → Option OA
  | [], _ => none
  | o :: r, m => bif Nat.beq o.m m then some o else findA r m
/-- One's own that is a slice. -/
def findO (l : List OA) (m : Nat) : Option OA := match findA l m with | some o => bif Nat.blt o.e objMark then some o else none | none => none
theorem findO_A {l : List OA} {m : Nat} {x : OA} (h : findO l m = some x) : findA l m = some x ∧ x.e < objMark := by
  unfold findO at h
  split at h
  · rename_i o ho
    cases hb : Nat.blt o.e objMark with
    | true => simp only [hb, cond_true, Option.some.injEq] at h; subst h; exact ⟨ho, blt_iff.1 hb⟩
    | false => simp [hb] at h
  · cases h
theorem findO_nil (m : Nat) : findO [] m = none := rfl
def setO : List OA → Nat → (o : OA) → List OA
  | [], _, _ => []
  | o :: r, m, x => bif Nat.beq o.m m then x :: r else o :: setO r m x
def delO : List OA → Nat → List OA
  | [], _ => []
  | o :: r, m => bif Nat.beq o.m m then r else o :: delO r m
def castL {k k' : K} (h : k = k') (l : List (El k)) : List (El k') := h ▸ l

/-- Is a cell the slice that is nil? -/
def isNilA : AV → Bool
  | .v x => isNilS x
  | _ => false
def dcB : List AV → Option (Bool × List AV)
  | .v (.bool x) :: r => some (x, r)
  | _ => none
def dcI (k : IntKind) : List AV → Option (Int × List AV)
  | .v (.int k' x) :: r => if k = k' then some (x, r) else none
  | _ => none
def dcS : List AV → Option (ByteArray × List AV)
  | .v (.string x) :: r => some (x, r)
  | _ => none
def dcA (n : Nat) : List AV → Option (List Int × List AV)
  | .by_ n' l :: r => bif Nat.beq n n' then some (l, r) else none
  | _ => none
def dcL (k : K) : List AV → Option (List (El k) × List AV)
  | a :: r => (match a with
    | .sl q k' l => bif Nat.blt 0 q then (if h : k' = k then some (castL h l, r) else none) else none
    | a => bif isNilA a then some ([], r) else none)
  | [] => none
def dcQ (ow : List OA) (k : K) : List AV → Option (List (El k) × List AV)
  | a :: r => (match a with
    | .sl _ k' l => if h : k' = k then some (castL h l, r) else none
    | .ov m => (match findO ow m with | some o => if h : o.k = k then some (castL h o.l, r) else none | none => none)
    | .os m _ lo hi => (match findO ow m with | some o => if h : o.k = k then some (castL h ((o.l.drop lo).take (hi - lo)), r) else none | none => none)
    | a => bif isNilA a then some ([], r) else none)
  | [] => none
def dcN (ow : List OA) (e : Nat) (k : K) : List AV → Option (List (El k) × List AV)
  | a :: r => (match a with
    | .ov m => (match findA ow m with | some o => bif Nat.beq o.e e then (if h : o.k = k then some (castL h o.l, r) else none) else none | none => none)
    | a => bif isNilA a && Nat.blt e objMark then some ([], r) else none)
  | [] => none
/-- What cells tell of a kind; and the cells behind. -/
def dc (ow : List OA) : (k : K) → List AV → Option (El k × List AV)
  | .b, cs => dcB cs
  | .i k, cs => dcI k cs
  | .s, cs => dcS cs
  | .a8 n, cs => dcA n cs
  | .sl k, cs => dcL k cs
  | .sb k, cs => dcQ ow k cs
  | .sn e k, cs => dcN ow e k cs
  | .u, cs => some ((), cs)
  | .p x y, cs => (match dc ow x cs with
    | some (a, r) => (match dc ow y r with | some (b, r) => some ((a, b), r) | none => none)
    | none => none)

def kOfs (f : TypeId → Option K) : List Field → Option K
  | [] => some .u
  | x :: r => (match f x.type with
    | some k => (match r with | [] => some k | _ => (match kOfs f r with | some k' => some (.p k k') | none => none))
    | none => none)
/-- The kind of a type. -/
def kOf (P : Program) : Nat → TypeId → Option K
  | 0, _ => none
  | d + 1, t =>
    match P.underlying t with
    | some .bool => some .b
    | some (.int k) => some (.i k)
    | some .string => some .s
    | some (.slice e) => (match kOf P d e with | some k => some (.sl k) | none => none)
    | some (.array n e) => (match P.underlying e with | some (.int .u8) => some (.a8 n) | _ => none)
    | some (.struct fs) =>
      (match fs.toList with
       | [f] => (match kOf P d f.type with | some k => some (.p k .u) | none => none)
       | l => kOfs (kOf P d) l)
    | _ => none
def shapes (g : TypeId → List (Option Nat)) : List Field → List (Option Nat)
  | [] => []
  | f :: r => g f.type ++ shapes g r
/-- How a variable's cells are grouped: single ones, and arrays of bytes. -/
def shapeOf (P : Program) : Nat → TypeId → List (Option Nat)
  | 0, _ => []
  | d + 1, t =>
    match P.underlying t with
    | some (.array n e) => (match P.underlying e with
      | some (.int .u8) => [some n]
      | _ => (List.replicate n (shapeOf P d e)).flatten)
    | some (.struct fs) => shapes (shapeOf P d) fs.toList
    | some _ => [none]
    | none => []
def takeB : Nat → List Value → Option (List Int × List Value)
  | 0, vs => some ([], vs)
  | n + 1, v :: vs => (match v with | .int .u8 z => (match takeB n vs with | some (l, r) => some (z :: l, r) | none => none) | _ => none)
  | _ + 1, [] => none
def segm : List (Option Nat) → List Value → Option (List AV)
  | [], [] => some []
  | none :: sh, v :: vs => bif oneC v then (match segm sh vs with | some l => some (.v v :: l) | none => none) else none
  | some n :: sh, vs => (match takeB n vs with | some (b, r) => (match segm sh r with | some l => some (.by_ n b :: l) | none => none) | none => none)
  | _, _ => none
/-- The cells of a variable that is zero. -/
def zeroA (P : Program) (d : Nat) (t : TypeId) : Option (List AV) :=
  match P.info? t with
  | some i => (match i.zero with | some z => segm (shapeOf P d t) z.cells.toList | none => none)
  | none => none

end Go.Proofs.Ytoiacgfhjikddaa.W
