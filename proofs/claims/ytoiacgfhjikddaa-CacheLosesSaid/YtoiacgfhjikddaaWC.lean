/- The interpreter, third part: operations that change something, regions, code, calls and loops. -/
import Derived.Test.YtoiacgfhjikddaaWB
set_option linter.unusedSimpArgs false
set_option linter.unusedVariables false
namespace Go.Proofs.Ytoiacgfhjikddaa.W
open Go.RowKit Vc

/-- A slice of one's own is handed over. -/
def AS.freeze (s : AS) (m : Nat) : Option AS :=
  match findO s.ow m with
  | some o => some { s with tm := onTm (fz o) s.tm, fr := onFr (fz o) s.fr, lo := onLo (fzs o) s.lo, ow := delO s.ow m }
  | none => none
mutual
/-- The slices of one's own that a value holds. -/
def ovs : AV → List Nat
  | .ov m => [m]
  | .os m _ _ _ => [m]
  | .op m _ _ _ => [m]
  | .fn _ c => ovss c
  | .ag c => ovss c
  | .tup c => ovss c
  | _ => []
def ovss : List AV → List Nat
  | [] => []
  | a :: r => ovs a ++ ovss r
end
def AS.freezes (s : AS) : List Nat → AS
  | [] => s
  | m :: r => (match s.freeze m with | some s' => s'.freezes r | none => s.freezes r)
/-- One's own is written anew: what was said of it is no more so. -/
def AS.renew (s : AS) (m : Nat) (o : OA) : AS :=
  { s with tm := onTm (pg m) s.tm, fr := onFr (pg m) s.fr, lo := onLo (pgs m) s.lo, ow := setO s.ow m o }
/-- One's own, whose elements are written: it stays where it lies. -/
def AS.rewrite (s : AS) (m : Nat) (o : OA) : AS := { s with ow := setO s.ow m o }
def AS.fresh (s : AS) (e : TypeId) (k : K) (l : List (El k)) : AS := { s with ow := s.ow ++ [⟨s.nx, e, k, l⟩], nx := s.nx + 1 }
def lsOf (s : AS) (i off n : Nat) : (k : K) → Option (List (El k))
  | .i .u8 => (match cellsOf s i with
    | some cs => (match bytesAt cs off with | some (n', l) => bif Nat.beq n n' then some l else none | none => none)
    | none => none)
  | _ => none
/-- What a slice holds, by its kind. -/
def listOf (s : AS) (k : K) (a : AV) : Option (List (El k)) :=
  match a with
  | .sl q k' l => bif Nat.blt 0 q then (if h : k' = k then some (castL h l) else none) else (if h : k' = k then (match k with | .i _ => some (castL h l) | .b => some (castL h l) | .a8 _ => some (castL h l) | _ => none) else none)
  | .ov m => (match findO s.ow m with | some o => if h : o.k = k then some (castL h o.l) else none | none => none)
  | .os m _ lo hi => (match findO s.ow m with | some o => if h : o.k = k then some (castL h ((o.l.drop lo).take (hi - lo))) else none | none => none)
  | .ls i off n => lsOf s i off n k
  | a => bif isNilA a then some [] else none
/-- Kinds of which no part is lent, and none is new. -/
def okK : K → Bool
  | .sn _ _ => false
  | .sb _ => false
  | .p x y => okK x && okK y
  | _ => true
def elemT (P : Program) (t : TypeId) : Option (TypeId × K × Nat) :=
  match P.underlying t with
  | some (.slice e) => (match kOf P 9 e, P.info? e with | some k, some i => bif elemB P e (wd k) i.bytes && Nat.blt 0 (wd k) && okK k && Nat.blt e objMark then some (e, k, i.bytes) else none | _, _ => none)
  | _ => none
def zeroK (P : Program) (e : TypeId) (k : K) : Option (El k) :=
  match zeroA P 9 e with
  | some cs => (match dc [] k cs with | some (x, []) => some x | _ => none)
  | none => none
def setL {α : Type} : List α → List (Nat × α) → List α
  | l, [] => l
  | l, (i, x) :: r => setL (l.set i x) r
def ltAll (n : Nat) : List (Nat × AV) → Bool
  | [] => true
  | (i, _) :: r => Nat.blt i n && ltAll n r
def ovP : List (Nat × AV) → List Nat
  | [] => []
  | (_, a) :: r => ovs a ++ ovP r

def wrC (cs : List AV) (off : Nat) (xs : List AV) (n : Nat) : Option (List AV) :=
  match wrW cs off xs n with
  | some l => some l
  | none => (match xs with | [.v (.int .u8 z)] => bif Nat.beq n 1 then wrB cs off z else none | _ => none)
def dcK (k : K) (a : AV) : Option (El k) :=
  bif okK k then (match cellsA a with | some cs => (match dc [] k cs with | some (x, []) => some x | _ => none) | none => none) else none
def dcs (k : K) : List (Nat × AV) → Option (List (Nat × El k))
  | [] => some []
  | (i, a) :: r => (match dcK k a, dcs k r with | some x, some l => some ((i, x) :: l) | _, _ => none)
section
variable {R : Type}
def evBox (s : AS) (d : Option Nat) (t : TypeId) (x : Operand) (k : AS → T R) : T R :=
  match s.ev x with
  | some a => (match cellsA a with | some cs => k (({ s with lo := s.lo ++ [⟨cs, t⟩] } : AS).put d (.lp s.lo.length 0)) | none => .stop 1)
  | none => .stop 2
def evAlloc (P : Program) (s : AS) (d : Option Nat) (t : TypeId) (k : AS → T R) : T R :=
  match zeroA P 9 t with
  | some cs => k (({ s with lo := s.lo ++ [⟨cs, t⟩] } : AS).put d (.lp s.lo.length 0))
  | none => .stop 3
def evStL (s : AS) (d : Option Nat) (n : Nat) (i off : Nat) (a : AV) (k : AS → T R) : T R :=
  match s.lo[i]?, cellsA a with
  | some l, some xs =>
    bif Nat.beq (widths xs) n then
      (match wrC l.cs off xs n with
       | some cs => k (({ s with lo := s.lo.set i ⟨cs, l.e⟩ } : AS).put d (.v undef))
       | none => .stop 4)
    else .stop 5
  | _, _ => .stop 6
def evStB (s : AS) (d : Option Nat) (i off n : Nat) (j z : Int) (k : AS → T R) : T R :=
  match s.lo[i]? with
  | some l => (match bytesAt l.cs off with
    | some (n', b) => bif Nat.beq n n' then (match wrW l.cs off [.by_ n (b.set j.toNat z)] n with | some cs => .br (decide (j < n)) (k (({ s with lo := s.lo.set i ⟨cs, l.e⟩ } : AS).put d (.v undef))) (.stop 7) | none => .stop 8) else .stop 9
    | none => .stop 10)
  | none => .stop 11
def evStO (s : AS) (d : Option Nat) (n m j off : Nat) (a : AV) (k : AS → T R) : T R :=
  match findO s.ow m, cellsA a with
  | some ob, some xs =>
    bif Nat.beq (widths xs) n && okK ob.k then
      (match wrC (enc ob.k (ob.l.getD j (dft ob.k))) off xs n with
       | some cs => (match dc [] ob.k cs with
         | some (z, []) => .br (Nat.blt j ob.l.length) (k ((s.rewrite m ⟨m, ob.e, ob.k, ob.l.set j z⟩).put d (.v undef))) (.stop 12)
         | _ => .stop 13)
       | none => .stop 14)
    else .stop 15
  | _, _ => .stop 16
def evStP (s : AS) (d : Option Nat) (n : Nat) (x y : Operand) (k : AS → T R) : T R :=
  match s.ev x, s.ev y with
  | some (.op m _ j off), some a => evStO s d n m j off a k
  | _, _ => .stop 18
def evStore (P : Program) (s : AS) (d : Option Nat) (t : TypeId) (x y : Operand) (k : AS → T R) : T R :=
  match s.ev x, s.ev y, P.info? t with
  | some (.lp i off), some a, some inf => evStL s d inf.size i off a k
  | some (.lb i off n j), some (.v (.int .u8 z)), some inf => bif Nat.beq inf.size 1 then evStB s d i off n j z k else .stop 17
  | some (.op _ _ _ _), some a, some inf => evStP (s.freezes (ovs a)) d inf.size x y k
  | _, _, _ => .stop 19
def evMake (P : Program) (s : AS) (d : Option Nat) (t : TypeId) (x y : Operand) (k : AS → T R) : T R :=
  match elemT P t, numV (s.ev x), numV (s.ev y) with
  | some (e, kd, bytes), some n, some c => (match zeroK P e kd with
    | some z => .br (decide (0 ≤ n) && decide (c = n) && decide ((bytes + 1) * n ≤ 140737488355328)) (k ((s.fresh e kd (List.replicate n.toNat z)).put d (.ov s.nx))) (.stop 20)
    | none => .stop 21)
  | _, _, _ => .stop 22
def evBldP (P : Program) (s : AS) (d : Option Nat) (e : TypeId) (kd : K) (n : Nat) (ps : List (Nat × Operand)) (k : AS → T R) : T R :=
  match partsA s ps, zeroK P e kd with
  | some l, some z => (match dcs kd l with
    | some q => bif ltAll n l && Nat.ble (n * wd kd) 16777216 && Nat.ble n 16777216 then k ((s.fresh e kd (setL (List.replicate n z) q)).put d (.ov s.nx)) else .stop 23
    | none => .stop 24)
  | _, _ => .stop 25
def evBldS (P : Program) (s : AS) (d : Option Nat) (t : TypeId) (n : Nat) (ps : List (Nat × Operand)) (k : AS → T R) : T R :=
  match elemT P t, partsA s ps with
  | some (e, kd, _), some l => evBldP P (s.freezes (ovP l)) d e kd n ps k
  | _, _ => .stop 26
def evAppend (P : Program) (s : AS) (d : Option Nat) (t : TypeId) (x y : Operand) (k : AS → T R) : T R :=
  match s.ev x, s.ev y, elemT P t with
  | some a, some b, some (e, kd, bytes) =>
    (match listOf s kd b with
     | some ys =>
       (match a with
        | .ov m => (match findO s.ow m with
          | some ob => bif Nat.beq ob.e e then (if h : ob.k = kd then .br (decide ((ob.l.length + ys.length) * (bytes + 1) ≤ 140737488355328)) (k ((s.renew m ⟨m, e, kd, castL h ob.l ++ ys⟩).put d (.ov m))) (.stop 27) else .stop 28) else .stop 29
          | none => .stop 30)
        | .sl 2 k' l => if h : k' = kd then .br (decide (0 < ys.length) && decide ((l.length + ys.length) * (bytes + 1) ≤ 140737488355328)) (k ((s.fresh e kd (castL h l ++ ys)).put d (.ov s.nx))) (.stop 31) else .stop 32
        | a => bif isNilA a then .br (decide (ys.length * (bytes + 1) ≤ 140737488355328)) (k ((s.fresh e kd ys).put d (.ov s.nx))) (.stop 33) else .stop 34)
     | none => .stop 35)
  | _, _, _ => .stop 36
def evAppZ (P : Program) (s : AS) (d : Option Nat) (t t' : TypeId) (x y : Operand) (k : AS → T R) : T R :=
  match s.ev x, s.ev y, elemT P t, P.underlying t' with
  | some a, some (.v (.int _ n)), some (e, kd, bytes), some (.int _) => bif isNilA a then (match zeroK P e kd with
    | some z => .br (decide (0 < n) && decide (n * (bytes + 1) ≤ 140737488355328)) (k ((s.fresh e kd (List.replicate n.toNat z)).put d (.ov s.nx))) (.stop 150)
    | none => .stop 151) else .stop 152
  | _, _, _, _ => .stop 153
def evCopy (P : Program) (s : AS) (d : Option Nat) (t : TypeId) (x y : Operand) (k : AS → T R) : T R :=
  match s.ev x, s.ev y, elemT P t with
  | some a, some b, some (e, kd, _) =>
    (match listOf s kd b with
     | some ys =>
       (match a with
        | .ov m => (match findO s.ow m with
          | some ob => (if h : ob.k = kd then bif !Nat.beq ob.e e then .stop 39 else k ((s.rewrite m ⟨m, ob.e, kd, ys.take ob.l.length ++ (castL h ob.l).drop ys.length⟩).put d (.v (.int .i64 (min ys.length ob.l.length : Nat)))) else .stop 37)
          | none => .stop 38)
        | .os m w lo hi => (match findO s.ow m with
          | some ob => (if h : ob.k = kd then bif !Nat.beq ob.e e then .stop 39 else k ((s.rewrite m ⟨m, ob.e, kd, (castL h ob.l).take lo ++ ys.take (hi - lo) ++ (castL h ob.l).drop (lo + min ys.length (hi - lo))⟩).put d (.v (.int .i64 (min ys.length (hi - lo) : Nat)))) else .stop 40)
          | none => .stop 41)
        | _ => .stop 42)
     | none => .stop 43)
  | _, _, _ => .stop 44
/-! Elements of arrays, bytes of strings -/
def strBytes (z : ByteArray) : List Int := z.data.toList.map fun b => (b.toNat : Int)
/-- An element of an array that is a value, whichever. -/
def evIdxC (P : Program) (s : AS) (d : Option Nat) (e : TypeId) (w : Nat) (cs : List AV) (n : Int) (k : AS → T R) : Nat → Nat → T R
  | 0, _ => .stop 160
  | c + 1, j => (match loadC P e cs (j * w) with | some a => .br (decide (n = j)) (k (s.put d a)) (evIdxC P s d e w cs n k c (j + 1)) | none => .stop 161)
def evIdxV (P : Program) (s : AS) (d : Option Nat) (t : TypeId) (x i : Operand) (k : AS → T R) : T R :=
  match P.underlying t, s.ev x, numV (s.ev i) with
  | some (.array len e), some (.ag cs), some n => (match P.info? e with | some inf => evIdxC P s d e inf.size cs n k len 0 | none => .stop 162)
  | _, _, _ => .stop 163
def evS2B (P : Program) (s : AS) (d : Option Nat) (a b : TypeId) (x : Operand) (k : AS → T R) : T R :=
  match P.underlying a, P.underlying b, s.ev x with
  | some .string, some (.slice e), some (.v (.string z)) => (match P.underlying e with | some (.int .u8) => k (s.put d (.sl 1 (.i .u8) (strBytes z))) | _ => .stop 164)
  | _, _, _ => .stop 165
def evCopyS2 (P : Program) (s : AS) (d : Option Nat) (t : TypeId) (m : Nat) (z : ByteArray) (k : AS → T R) : T R :=
  match findO s.ow m, P.underlying t with
  | some ⟨_, oe, .i .u8, l⟩, some (.slice e) => bif Nat.beq oe e && cellsW P e 1 then .br (decide (z.size ≤ l.length)) (k ((s.rewrite m ⟨m, oe, .i .u8, strBytes z ++ l.drop z.size⟩).put d (.v (.int .i64 z.size)))) (.stop 166) else .stop 167
  | _, _ => .stop 168
def evCopyS (P : Program) (s : AS) (d : Option Nat) (t : TypeId) (x y : Operand) (k : AS → T R) : T R :=
  match s.ev x, s.ev y with
  | some (.ov m), some (.v (.string z)) => evCopyS2 P s d t m z k
  | _, _ => .stop 169
/-! Maps, and what goes over them -/
def isAg : AV → Bool
  | .ag _ => true
  | _ => false
/-- What a value tells of a kind, all of it. -/
def dcK2 (k : K) (a : AV) : Option (El k) := bif isAg a == agK k then dcK k a else none
/-- Is the zero value one cell? -/
def zero1 (P : Program) (et : TypeId) : Bool := match P.info? et with | some i => (match i.zero with | some z => oneC z | none => false) | none => false
def mapT (P : Program) (t : TypeId) : Option (TypeId × TypeId × K × K) :=
  match P.underlying t with
  | some (.map kt et) => (match kOf P 9 kt, kOf P 9 et with
    | some kk, some kv => bif keyT P kt (wd kk) && agK kk && okK kk && okK kv && !agK kv && Nat.beq (wd kv) 1 && Nat.blt 0 (wd kk) && Nat.blt (wd kk) objMark then some (kt, et, kk, kv) else none
    | _, _ => none)
  | _ => none
def isMapE (e : Nat) : Bool := Nat.ble objMark e && Nat.blt e iterMark
def hitsE (P : Program) (t : TypeId) {kv : K} (kk : K) (x : El kk) : List (El kk × El kv) → Option (List Bool)
  | [] => some []
  | e :: r => (match eqT P Op.maxDepth t (pack kk x) (pack kk e.1), hitsE P t kk x r with | some b, some bs => some (b :: bs) | _, _ => none)
def a8T (P : Program) (t n : Nat) : Bool := match P.underlying t with | some (.array n' el) => Nat.beq n' n && u8T P el && cellsW P el 1 | _ => false
/-- Which entries of a map are meant by a key. -/
def hits (P : Program) (t : TypeId) {kv : K} : (kk : K) → El kk → List (El kk × El kv) → Option (List Bool)
  | .a8 n, x, l => bif a8T P t n then some (l.map fun e => decide (x = e.1)) else none
  | kk, x, l => hitsE P t kk x l
def isA8 : K → Bool
  | .a8 _ => true
  | _ => false
def pickM {α β : Type} : List Bool → List (α × β) → Option β
  | b :: bs, e :: r => bif b then some e.2 else pickM bs r
  | _, _ => none
def putM {α β : Type} : List Bool → List (α × β) → α → β → List (α × β)
  | b :: bs, e :: r, x, v => bif b then (x, v) :: r else e :: putM bs r x v
  | _, _, x, v => [(x, v)]
def evMakeM (P : Program) (s : AS) (d : Option Nat) (t : TypeId) (r : Option Operand) (k : AS → T R) : T R :=
  match mapT P t, numO s r with
  | some (_, _, kk, kv), some _ => k ((s.fresh (objMark + wd kk) (.p kk kv) []).put d (.ov s.nx))
  | _, _ => .stop 110
def evUpd2 (P : Program) (s : AS) (d : Option Nat) (kt : TypeId) (kk kv : K) (j : Nat) (l : List (El kk × El kv)) (x : El kk) (v : El kv) (k : AS → T R) : T R :=
  match hits P kt kk x l with
  | some bs => bif isA8 kk then k ((s.rewrite j ⟨j, objMark + wd kk, .p kk kv, putM bs l x v⟩).put d (.v undef)) else .br (bs.all fun b => !b) (k ((s.rewrite j ⟨j, objMark + wd kk, .p kk kv, putM bs l x v⟩).put d (.v undef))) (.stop 111)
  | none => .stop 112
def evUpd (P : Program) (s : AS) (d : Option Nat) (t : TypeId) (m key y : Operand) (k : AS → T R) : T R :=
  match mapT P t, s.ev m, s.ev key, s.ev y with
  | some (kt, _, kk, kv), some (.ov j), some a, some b => (match findA s.ow j with
    | some o => bif Nat.beq o.e (objMark + wd kk) then (if h : o.k = .p kk kv then (match dcK2 kk a, dcK2 kv b with
      | some x, some v => evUpd2 P s d kt kk kv j (castL h o.l) x v k
      | _, _ => .stop 113) else .stop 114) else .stop 115
    | none => .stop 116)
  | _, _, _, _ => .stop 117
def evLook2 (P : Program) (s : AS) (d : Option Nat) (kt et : TypeId) (kk kv : K) (l : List (El kk × El kv)) (x : El kk) (ok : Bool) (k : AS → T R) : T R :=
  match hits P kt kk x l, zeroK P et kv with
  | some bs, some z => bif !zero1 P et then .stop 136 else k (s.put d (bif ok then .tup [pack kv ((pickM bs l).getD z), .v (.bool (pickM bs l).isSome)] else pack kv ((pickM bs l).getD z)))
  | _, _ => .stop 118
def evLook (P : Program) (s : AS) (d : Option Nat) (t : TypeId) (m key : Operand) (ok : Bool) (k : AS → T R) : T R :=
  match mapT P t, s.ev m, s.ev key with
  | some (kt, et, kk, kv), some (.ov j), some a => (match findA s.ow j with
    | some o => bif Nat.beq o.e (objMark + wd kk) then (if h : o.k = .p kk kv then (match dcK2 kk a with
      | some x => evLook2 P s d kt et kk kv (castL h o.l) x ok k
      | _ => .stop 119) else .stop 120) else .stop 121
    | none => .stop 122)
  | _, _, _ => .stop 123
def evRange (P : Program) (s : AS) (d : Option Nat) (t : TypeId) (x : Operand) (k : AS → T R) : T R :=
  match P.underlying t, s.ev x with
  | some (.map _ _), some (.ov j) => (match findA s.ow j with
    | some o => bif isMapE o.e then k ((s.fresh (iterMark + (j + 1)) (.a8 o.l.length) (List.replicate o.l.length (List.replicate o.l.length 0))).put d (.ov s.nx)) else .stop 124
    | none => .stop 125)
  | some (.map _ _), some (.v (.map none)) => k ((s.fresh iterMark (.a8 0) []).put d (.ov s.nx))
  | _, _ => .stop 126
/-- What goes over a map, and the map. -/
def iterOf (s : AS) (it : Operand) : Option (Nat × OA × OA) :=
  match s.ev it with
  | some (.ov i) => (match findA s.ow i with
    | some io => bif Nat.blt iterMark io.e then (match findA s.ow (io.e - iterMark - 1) with | some mo => bif isMapE mo.e then some (i, io, mo) else none | none => none) else none
    | none => none)
  | _ => none
def evNext2 (s : AS) (d : Option Nat) (i : Nat) (io mo : OA) (k : AS → T R) : T R :=
  match mo, io with
  | ⟨_, me, .p kk kv, l⟩, ⟨_, ie, .a8 S, il⟩ => bif !(Nat.beq me (objMark + wd kk) && agK kk && !agK kv) then .stop 137 else .br (Nat.beq S l.length) (.both (k (s.put d (.tup [.v (.bool false)]))) (.br (Nat.blt 0 il.length) (.all Nat 0 (fun x => x < l.length) fun x => k ((s.rewrite i ⟨i, ie, .a8 S, il.tail⟩).put d (.tup [.v (.bool true), pack kk (l.getD x (dft (.p kk kv))).1, pack kv (l.getD x (dft (.p kk kv))).2]))) .done)) (.stop 127)
  | _, _ => .stop 128
def evNext (s : AS) (d : Option Nat) (it : Operand) (isStr : Bool) (k : AS → T R) : T R :=
  bif isStr then .stop 129 else
  match iterOf s it with
  | some (i, io, mo) => evNext2 s d i io mo k
  | none => (match s.ev it with
    | some (.ov i) => (match findA s.ow i with | some io => bif Nat.beq io.e iterMark then k (s.put d (.tup [.v (.bool false)])) else .stop 130 | none => .stop 131)
    | _ => .stop 132)
def evEntry2 (s : AS) (d : Option Nat) (io mo : OA) (k : AS → T R) : T R :=
  match mo, io with
  | ⟨_, me, .p kk kv, l⟩, ⟨_, _, .a8 S, il⟩ => bif !(Nat.beq me (objMark + wd kk) && agK kk && !agK kv) then .stop 138 else .br (Nat.beq S l.length && Nat.blt il.length S) (.all Nat 0 (fun x => x < l.length) fun x => k (s.put d (.tup [pack kk (l.getD x (dft (.p kk kv))).1, pack kv (l.getD x (dft (.p kk kv))).2]))) (.stop 133)
  | _, _ => .stop 134
def evEntry (s : AS) (d : Option Nat) (it : Operand) (k : AS → T R) : T R :=
  match iterOf s it with
  | some (_, io, mo) => evEntry2 s d io mo k
  | none => .stop 135
/-- An operation that changes something. -/
def evL (P : Program) (s : AS) (o : Oper) (k : AS → T R) : T R :=
  match o.op with
  | .box t x => evBox s o.dst t x k
  | .alloc t => evAlloc P s o.dst t k
  | .store t x y => evStore P s o.dst t x y k
  | .makeSlice t x y => evMake P s o.dst t x y k
  | .buildSlice t n ps => evBldS P s o.dst t n ps.toList k
  | .binOp op t x y _ =>
    (match s.ev x, s.ev y with
     | some (.sl _ kd l), some (.v z) => bif isNilS z && slT P t (wd kd) then .all Bool true (fun b => b = true → l = []) fun b => (match op with | .eql => k (s.put o.dst (.v (.bool b))) | .neq => k (s.put o.dst (.v (.bool !b))) | _ => .stop 45) else .stop 46
     | _, _ => .stop 47)
  | .call c =>
    (match c.callee, c.args.toList, c.argTypes.toList with
     | .builtin .append, [x, y], [t, t'] => bif Nat.beq t t' then evAppend P s o.dst t x y k else evAppZ P s o.dst t t' x y k
     | .builtin .copy, [x, y], [t, t'] => bif Nat.beq t t' then evCopy P s o.dst t x y k else evCopyS P s o.dst t x y k
     | _, _, _ => .stop 50)
  | .index t x i => evIdxV P s o.dst t x i k
  | .convert a b x => evS2B P s o.dst a b x k
  | .makeMap t r => evMakeM P s o.dst t r k
  | .mapUpdate t m x y => evUpd P s o.dst t m x y k
  | .insert t m x y => evUpd P s o.dst t m x y k
  | .lookup t m x ok => evLook P s o.dst t m x ok k
  | .range t x => evRange P s o.dst t x k
  | .next it b => evNext s o.dst it b k
  | .entry it => evEntry s o.dst it k
  | _ => .stop 51

mutual
/-- What a call brought that is new becomes one's own. -/
def adopt : AV → AS → AV × AS
  | .sl q k l, s => bif Nat.blt q 3 then (.sl q k l, s) else (.ov s.nx, s.fresh (q - 3) k l)
  | .ag c, s => let r := adopts c s; (.ag r.1, r.2)
  | a, s => (a, s)
def adopts : List AV → AS → List AV × AS
  | [], s => ([], s)
  | a :: r, s => let x := adopt a s; let y := adopts r x.2; (x.1 :: y.1, y.2)
end
def oneA : List AV → AV
  | [a] => a
  | l => .tup l
/-- What of one's own is handed over, of a value of a kind. -/
def gv : K → List AV → List Nat × List AV
  | .sb _, r => ([], r.tail)
  | .sn _ _, r => ([], r.tail)
  | .u, r => ([], r)
  | .p x y, r => let a := gv x r; let b := gv y a.2; (a.1 ++ b.1, b.2)
  | _, a :: r => (ovs a, r)
  | _, [] => ([], [])
def given : List K → List AV → List Nat
  | k :: r, a :: as => (match cellsA a with | some cs => (gv k cs).1 | none => []) ++ given r as
  | _, _ => []
/-- A slice of a variable's bytes, lent. -/
def lendA (s : AS) : AV → AV
  | .ls i off n => (match cellsOf s i with | some cs => (match bytesAt cs off with | some (n', l) => bif Nat.beq n n' then .sl 0 (.i .u8) l else .bad | none => .bad) | none => .bad)
  | a => a
/-- What a value tells of a kind. -/
def dcP (ow : List OA) (k : K) (a : AV) : Option (El k) :=
  bif isAg a == agK k then (match cellsA a with | some cs => (match dc ow k cs with | some (x, []) => some x | _ => none) | none => none) else none
def dcArgs (ow : List OA) : (ks : List K) → List AV → Option (Els ks)
  | [], as => (match as with | [] => some () | _ => none)
  | k :: r, as => (match as with
    | [] => none
    | a :: as => (match r with
      | [] => (match as with | [] => dcP ow k a | _ => none)
      | k' :: r' => (match dcP ow k a, dcArgs ow (k' :: r') as with | some x, some y => some (x, y) | _, _ => none)))
def noSns : List K → Bool
  | [] => true
  | k :: r => noSn k && noSns r
/-- Kinds of which nothing is lent, however deep. -/
def dk : K → Bool
  | .sb _ => false
  | .sl k => dk k
  | .sn e k => Nat.ble e iterMark && dk k
  | .p x y => dk x && dk y
  | _ => true
def dks : List K → Bool
  | [] => true
  | k :: r => dk k && dks r
def evCD (s : AS) (c : Ct) (as : List AV) (k : AV → AS → T R) : T R :=
  match dcArgs s.ow c.ks (as.map (lendA s)) with
  | some x => bif !dks (c.sp x).rk then .stop 59 else .chk (c.sp x).pre (match (c.sp x).out with
      | .val y => k (oneA (adopts (packs (c.sp x).rk y) s).1) (adopts (packs (c.sp x).rk y) s).2
      | .rel post => .all (Els (c.sp x).rk) (dft (tupK (c.sp x).rk)) post fun y => k (oneA (adopts (packs (c.sp x).rk y) s).1) (adopts (packs (c.sp x).rk y) s).2)
  | none => .stop 60
def evC2 (s : AS) (c : Ct) (ops : List Operand) (f : Operand) (k : AV → AS → T R) : T R :=
  match s.evs ops, s.ev f with
  | some as, some (.fn _ caps) => evCD s c (as ++ caps) k
  | _, _ => .stop 61
def evC (s : AS) (c : Ct) (ops : List Operand) (f : Operand) (k : AV → AS → T R) : T R :=
  match s.evs ops, s.ev f with
  | some as, some (.fn _ caps) => bif noSns c.ks then evC2 (s.freezes (given c.ks (as ++ caps))) c ops f k else .stop 62
  | _, _ => .stop 63

def initA : Nat → List AV → List (Nat × AV)
  | _, [] => []
  | k, a :: r => (k, a) :: initA (k + 1) r
def resA (P : Program) (s : AS) : List ResultVar → Option (List AV)
  | [] => some []
  | .tmp t :: r => (match s.get t, resA P s r with | some a, some l => some (a :: l) | _, _ => none)
  | .cell t ty :: r =>
    (match s.get t, resA P s r with
     | some (.lp i off), some l => (match cellsOf s i with | some cs => (match loadC P ty cs off with | some a => some (a :: l) | none => none) | none => none)
     | _, _ => none)

def join2 (l m : List Nat) : List Nat := l.foldl (fun m i => bif memB i m then m else i :: m) m
/-! ### Loops -/
mutual
/-- What says that two values are the same; places and names are below a bound. -/
def same (N M : Nat) : AV → AV → Option (List Prop)
  | .v x, .v y => (match x, y with
    | .int k x, .int k' y => if k = k' then some [x = y] else none
    | .bool x, .bool y => some [x = y]
    | .string x, .string y => some [x = y]
    | x, y => some [x = y])
  | .sl q k l, .sl q' k' l' => bif Nat.beq q q' then (if h : k = k' then some [castL h l = l'] else none) else none
  | .lp i o, .lp i' o' => bif Nat.beq i i' && Nat.beq o o' && Nat.blt i N then some [] else none
  | .ov m, .ov m' => bif Nat.beq m m' && Nat.blt m M then some [] else none
  | .fn f c, .fn f' c' => bif Nat.beq f f' then samesL N M c c' else none
  | .ag c, .ag c' => sames N M c c'
  | _, .bad => some []
  | _, _ => none
def samesL (N M : Nat) : List AV → List AV → Option (List Prop)
  | [], [] => some []
  | a :: r, b :: q => (match same N M a b, samesL N M r q with | some x, some y => some (x ++ y) | _, _ => none)
  | _, _ => none
def sames (N M : Nat) : List AV → List AV → Option (List Prop)
  | [], [] => some []
  | a :: r, b :: q => (match a, b with
    | .by_ n l, .by_ n' l' => bif Nat.beq n n' then (match sames N M r q with | some y => some ((l = l') :: y) | none => none) else none
    | .by_ _ _, _ => none
    | _, .by_ _ _ => none
    | a, b => (match same N M a b, sames N M r q with | some x, some y => some (x ++ y) | _, _ => none))
  | _, _ => none
end
abbrev tya (α : Type) (x : α) : α := x
/-- All of them. -/
def conj : List Prop → Prop
  | [] => True
  | [p] => p
  | p :: r => p ∧ conj r
def frame (s : AS) : Nat → Option (List (Nat × AV))
  | 0 => some s.tm
  | d + 1 => (match s.fr[d]? with | some f => some f.2 | none => none)
def slotA (s : AS) (d k : Nat) : Option AV := match frame s d with | some l => lookA l k | none => none
def setSlot (s : AS) (d k : Nat) (a : AV) : AS :=
  match d with
  | 0 => { s with tm := (k, a) :: dropA s.tm k }
  | d + 1 => (match s.fr[d]? with | some f => { s with fr := s.fr.set d (f.1, (k, a) :: dropA f.2 k) } | none => s)
/-- The cells of a place. -/
def plCells (s : AS) : Pl → Option (List AV)
  | .t d k => (match slotA s d k with | some a => cellsA a | none => none)
  | .x d k => (match slotA s d k with | some (.lp i 0) => cellsOf s i | _ => none)
def plSet (s : AS) (p : Pl) (cs : List AV) : AS :=
  match p with
  | .t d k => (match slotA s d k with
    | some (.ag _) => setSlot s d k (.ag cs)
    | _ => (match cs with | [.by_ _ _] => s | [a] => setSlot s d k a | _ => s))
  | .x d k => (match slotA s d k with | some (.lp i _) => (match s.lo[i]? with | some l => { s with lo := s.lo.set i ⟨cs, l.e⟩ } | none => s) | _ => s)
/-- Slices that are nil become one's own, where one's own is wanted. -/
def owned : K → List AV → AS → List AV × List AV × AS
  | .sn e k, a :: r, s => bif isNilA a && Nat.blt e objMark then ([.ov s.nx], r, s.fresh e k []) else ([a], r, s)
  | .u, r, s => ([], r, s)
  | .p x y, r, s => let q := owned x r s; let q' := owned y q.2.1 q.2.2; (q.1 ++ q'.1, q'.2.1, q'.2.2)
  | _, a :: r, s => ([a], r, s)
  | _, [], s => ([], [], s)
/-- The cells of a place in a later round, after what they were. -/
def recell : (k : K) → El k → List AV → AS → List AV × List AV × AS
  | .sn e k, l, .ov m :: r, s => ([.ov m], r, s.rewrite m ⟨m, e, k, l⟩)
  | .u, _, r, s => ([], r, s)
  | .p x y, z, r, s => let q := recell x z.1 r s; let q' := recell y z.2 q.2.1 q.2.2; (q.1 ++ q'.1, q'.2.1, q'.2.2)
  | k, x, r, s => (enc k x, r.tail, s)
def plKs (l : List (Pl × K)) : List K := l.map (·.2)
/-- What the places hold. -/
def plGet (s : AS) : List (Pl × K) → Option (List AV)
  | [] => some []
  | (p, _) :: r => (match plCells s p, plGet s r with | some a, some b => some (a ++ b) | _, _ => none)
def plOwn : List (Pl × K) → AS → AS
  | [], s => s
  | (p, k) :: r, s => (match plCells s p with | some cs => let q := owned k cs s; plOwn r (match q.2.1 with | [] => plSet q.2.2 p q.1 | _ => s) | none => plOwn r s)
def plPut : (l : List (Pl × K)) → El (tupK (plKs l)) → AS → AS
  | [], _, s => s
  | (p, k) :: r, x, s =>
    let one (y : El k) (s : AS) : AS := (match plCells s p with | some cs => let q := recell k y cs s; plSet q.2.2 p q.1 | none => s)
    match r, x with
    | [], x => one x s
    | q :: r', x => plPut (q :: r') x.2 (one x.1 s)
def keepT (s : AS) (d : Nat) : List (Nat × Nat) → List (Nat × AV)
  | [] => []
  | (d', k) :: r => bif Nat.beq d d' then (match slotA s d k with | some a => (k, a) :: keepT s d r | none => keepT s d r) else keepT s d r
def plSlots : List (Pl × K) → List (Nat × Nat)
  | [] => []
  | (.t d k, _) :: r => (d, k) :: plSlots r
  | (.x d k, _) :: r => (d, k) :: plSlots r
mutual
/-- The variables, and one's own, that a value speaks of. -/
def bxs : AV → List Nat
  | .lp i _ => [i]
  | .lb i _ _ _ => [i]
  | .ls i _ _ => [i]
  | .fn _ c => bxss c
  | .ag c => bxss c
  | .tup c => bxss c
  | _ => []
def bxss : List AV → List Nat
  | [] => []
  | a :: r => bxs a ++ bxss r
end
mutual
def oas : AV → List Nat
  | .ov m => [m]
  | .os m _ _ _ => [m]
  | .op m _ _ _ => [m]
  | .fn _ c => oass c
  | .ag c => oass c
  | .tup c => oass c
  | _ => []
def oass : List AV → List Nat
  | [] => []
  | a :: r => oas a ++ oass r
end
def inTm (g : AV → List Nat) : List (Nat × AV) → List Nat
  | [] => []
  | x :: r => g x.2 ++ inTm g r
def inFr (g : AV → List Nat) : List (Nat × List (Nat × AV)) → List Nat
  | [] => []
  | x :: r => inTm g x.2 ++ inFr g r
def inLo (g : List AV → List Nat) (S : List Nat) : Nat → List LO → List Nat
  | _, [] => []
  | i, l :: r => bif memB i S then g l.cs ++ inLo g S (i + 1) r else inLo g S (i + 1) r
def reach (lo : List LO) : Nat → List Nat → List Nat
  | 0, S => S
  | n + 1, S => reach lo n (join2 (inLo bxss S 0 lo) S)
def blanks : List AV → List AV
  | [] => []
  | .by_ n _ :: r => List.replicate n .bad ++ blanks r
  | _ :: r => .bad :: blanks r
def blankLo (S : List Nat) : Nat → List LO → List LO
  | _, [] => []
  | i, l :: r => (bif memB i S then l else ⟨blanks l.cs, l.e⟩) :: blankLo S (i + 1) r
def keepO (S : List Nat) : List OA → List OA
  | [] => []
  | o :: r => bif memB o.m S then o :: keepO S r else keepO S r
def keepFr (s : AS) (l : List (Nat × Nat)) : Nat → List (Nat × List (Nat × AV)) → List (Nat × List (Nat × AV))
  | _, [] => []
  | d, x :: r => (x.1, keepT s d l) :: keepFr s l (d + 1) r
/-- Without what is not spoken of. -/
def trim (s : AS) : AS :=
  let S := reach s.lo 4 (join2 (inTm bxs s.tm ++ inFr bxs s.fr) [])
  { s with lo := blankLo S 0 s.lo, ow := keepO (inTm oas s.tm ++ inFr oas s.fr ++ inLo oass S 0 s.lo) s.ow }
/-- The state at a loop's head, of which more is forgotten. -/
def head (s : AS) (l : List (Nat × Nat)) : AS := trim { s with tm := keepT s 0 l, fr := keepFr s l 1 s.fr }
def allBad : List AV → Bool
  | [] => true
  | .bad :: r => allBad r
  | _ => false
def sameTm (N M : Nat) (l : List (Nat × AV)) : List (Nat × AV) → Option (List Prop)
  | [] => some []
  | (k, a) :: r => (match lookA l k with | some b => (match same N M b a, sameTm N M l r with | some x, some y => some (x ++ y) | _, _ => none) | none => none)
def sameFr (N M : Nat) : List (Nat × List (Nat × AV)) → List (Nat × List (Nat × AV)) → Option (List Prop)
  | [], [] => some []
  | f :: r, g :: q => bif Nat.beq f.1 g.1 then (match sameTm N M f.2 g.2, sameFr N M r q with | some x, some y => some (x ++ y) | _, _ => none) else none
  | _, _ => none
def sameLo (N M : Nat) : List LO → List LO → Option (List Prop)
  | _, [] => some []
  | a :: r, b :: q => bif Nat.beq a.e b.e then (bif allBad b.cs && Nat.beq (widths a.cs) b.cs.length then sameLo N M r q else match sames N M a.cs b.cs, sameLo N M r q with | some x, some y => some (x ++ y) | _, _ => none) else none
  | _, _ => none
def sameOw (M : Nat) : List OA → List OA → Option (List Prop)
  | _, [] => some []
  | [], _ :: _ => none
  | o :: r, x :: q => bif Nat.beq o.m x.m then
      (bif Nat.beq o.e x.e && Nat.blt o.m M && (Nat.ble o.e iterMark || Nat.blt (o.e - iterMark - 1) M) then (if h : o.k = x.k then (match sameOw M r q with | some y => some ((castL h o.l = x.l) :: y) | none => none) else none) else none)
    else sameOw M r (x :: q)
/-- What says that a state is at least another one. -/
def sameS (s : AS) (h : AS) : Option (List Prop) :=
  bif Nat.beq s.n h.n && Nat.ble h.nx s.nx then
    (match sameTm h.lo.length h.nx s.tm h.tm, sameFr h.lo.length h.nx s.fr h.fr, sameLo h.lo.length h.nx s.lo h.lo, sameOw h.nx s.ow h.ow with
     | some a, some b, some c, some d => some (a ++ b ++ c ++ d)
     | _, _, _, _ => none)
  else none
def firstR : Code → Nat
  | .region id _ _ => id
  | .seq a _ => firstR a
  | .block _ b => firstR b
  | .loop b => firstR b
  | .scope b => firstR b
  | _ => 1000000
/-- A slice that is nil once more takes the place of one's own. -/
def nilOne (s0 : AS) (p : Pl) (k : K) (s : AS) : AS :=
  match p, k with
  | .t 0 j, .sn e k => (match slotA s0 0 j, slotA s 0 j with
    | some (.ov m), some x => bif isNilA x then (match findO s.ow m with
      | some o => bif Nat.beq (wd k) (wd o.k) && Nat.blt e objMark then { s.renew m ⟨m, e, k, []⟩ with tm := (j, .ov m) :: (s.renew m ⟨m, e, k, []⟩).tm } else s
      | none => s) else s
    | _, _ => s)
  | _, _ => s
def plNil (s0 : AS) : List (Pl × K) → AS → AS
  | [], s => s
  | (p, k) :: r, s => plNil s0 r (nilOne s0 p k s)
/-- The beginning of one's own takes the place of it, where one's own is wanted. -/
def trOne (p : Pl) (k : K) (s : AS) : AS :=
  match p, k with
  | .t 0 j, .sn e k => (match slotA s 0 j with
    | some (.os m w lo hi) => (match findO s.ow m with
      | some o => bif Nat.beq lo 0 && Nat.ble hi o.l.length && Nat.beq o.e e then (if h : o.k = k then { s.renew m ⟨m, e, k, (castL h o.l).take hi⟩ with tm := (j, .ov m) :: (s.renew m ⟨m, e, k, (castL h o.l).take hi⟩).tm } else s) else s
      | none => s)
    | _ => s)
  | _, _ => s
def plTr : List (Pl × K) → AS → AS
  | [], s => s
  | (p, k) :: r, s => plTr r (trOne p k s)
def backG (a : Ann) (s0 : AS) (x0 x : El (tupK (plKs a.pl))) (s' : AS) : T R :=
  match plGet s' a.pl with
  | some cs => (match dc s'.ow (tupK (plKs a.pl)) cs with
    | some (x', []) => (match sameS s' (plPut a.pl x' s0) with
      | some p => .chk (conj p) (.chk (a.inv x0 x' ∧ a.mu x0 x' < a.mu x0 x) .done)
      | none => .stop 80)
    | _ => .stop 81)
  | none => .stop 82
def backE (a : Ann) (s0 : AS) (x0 x : El (tupK (plKs a.pl))) (s' : AS) : T R := backG a s0 x0 x (plNil s0 a.pl (plTr a.pl s'))
def loopE (a : Ann) (s0 : AS) (x0 : El (tupK (plKs a.pl))) (body : AS → (Exit → AS → T R) → T R) (k : Exit → AS → T R) : T R :=
  .all (El (tupK (plKs a.pl))) (dft (tupK (plKs a.pl))) (a.inv x0) fun x => body (plPut a.pl x s0) fun e s' => match e with | .normal => backE a s0 x0 x s' | e => k e s'
def loop1 (a : Ann) (s0 : AS) (body : AS → (Exit → AS → T R) → T R) (k : Exit → AS → T R) : T R :=
  match plGet s0 a.pl with
  | some cs => (match dc s0.ow (tupK (plKs a.pl)) cs with
    | some (x0, []) => (match sameS s0 (plPut a.pl x0 s0) with
      | some p => .chk (conj p) (.chk (a.inv x0 x0) (loopE a s0 x0 body k))
      | none => .stop 83)
    | _ => .stop 84)
  | none => .stop 85
def evLoop (a : Ann) (s : AS) (body : AS → (Exit → AS → T R) → T R) (k : Exit → AS → T R) : T R :=
  loop1 a (plOwn a.pl (head (plTr a.pl s) (plSlots a.pl ++ a.keep))) body k

/-! ### Ways that meet -/
def swN (i j n : Nat) : Nat := bif Nat.beq n i then j else bif Nat.beq n j then i else n
mutual
/-- Two variables change their places. -/
def sw (i j : Nat) : AV → AV
  | .lp n off => .lp (swN i j n) off
  | .lb n off m z => .lb (swN i j n) off m z
  | .ls n off m => .ls (swN i j n) off m
  | .fn f c => .fn f (sws i j c)
  | .ag c => .ag (sws i j c)
  | .tup c => .tup (sws i j c)
  | a => a
def sws (i j : Nat) : List AV → List AV
  | [] => []
  | a :: r => sw i j a :: sws i j r
end
def swL {α : Type} (i j : Nat) (l : List α) : List α := match l[i]?, l[j]? with | some x, some y => (l.set i y).set j x | _, _ => l
def AS.swap (s : AS) (i j : Nat) : AS := bif Nat.blt i s.lo.length && Nat.blt j s.lo.length then { s with tm := onTm (sw i j) s.tm, fr := onFr (sw i j) s.fr, lo := swL i j (onLo (sws i j) s.lo) } else s
/-- The variables that were made in a region stand in the order of its operations. -/
def canon1 (d : Nat) : List Nat → AS → AS
  | [], s => s
  | e :: r, s => canon1 d r (match s.get d, s.get e with
    | some (.lp a 0), some (.lp b 0) => bif Nat.blt b a then s.swap a b else s
    | _, _ => s)
def canonA : List Nat → AS → AS
  | [], s => s
  | d :: r, s => canonA r (canon1 d r s)
def allocD (ops : Array Oper) : List Nat := ops.toList.filterMap fun o => match o.op with | .alloc _ => o.dst | .box _ _ => o.dst | _ => none
/-- What of one's own lies in places is handed over. -/
def plFz : List (Pl × K) → AS → List Nat
  | [], _ => []
  | (p, k) :: r, s => (match plCells s p with | some cs => (gv k cs).1 | none => []) ++ plFz r s
def ready0 (J : Jn) (s : AS) : AS := plTr J.pl (s.freezes (plFz J.pl s))
def head0 (J : Jn) (s : AS) : AS := plOwn J.pl (head (ready0 J s) (plSlots J.pl ++ J.keep))
def backJ {R : Type} (J : Jn) (s0 : AS) (x0 : El (tupK (plKs J.pp))) (s : AS) : T R :=
  match plGet s J.pl with
  | some cs => (match dc s.ow (tupK (plKs J.pl)) cs with
    | some (x', []) => (match sameS s (plPut J.pl x' s0) with
      | some p => .chk (conj p) (.chk (J.inv x0 x') .done)
      | none => .stop 142)
    | _ => .stop 143)
  | none => .stop 144
def evJoin {R : Type} (J : Jn) (s : AS) (body : (Exit → AS → T R) → T R) (ls : Option AS) (kn : AS → T R) (k : Exit → AS → T R) : T R :=
  match ls with
  | none => .stop 145
  | some s1 => (match plGet s J.pp with
    | some cs => (match dc s.ow (tupK (plKs J.pp)) cs with
      | some (x0, []) => .both (body fun e s' => match e with | .normal => backJ J (head0 J s1) x0 (plNil (head0 J s1) J.pl (ready0 J s')) | e => k e s') (.all (El (tupK (plKs J.pl))) (dft (tupK (plKs J.pl))) (J.inv x0) fun x => kn (plPut J.pl x (head0 J s1)))
      | _ => .stop 146)
    | none => .stop 147)

/-! ### Regions and code -/
def calleeA (s : AS) (o : Oper) : Option (Nat × List AV × List Operand × Operand) :=
  match o.op with
  | .call c => (match c.callee with
    | .value x => (match s.ev x with | some (.fn f caps) => some (f, caps, c.args.toList, x) | _ => none)
    | _ => none)
  | _ => none
/-- One operation. -/
def evO (c : Cf) (call : Nat → List AV → AS → (AV → AS → T R) → T R) (s : AS) (o : Oper) (k : AS → T R) : T R :=
  match evQ c.P s o with
  | some (b, a) => .br b (k (s.put o.dst a)) (.stop 64)
  | none =>
    (match calleeA s o with
     | some (f, caps, ops, x) => (match findC c.ct f with
       | some ct => evC s ct ops x fun a s' => k (s'.put o.dst a)
       | none => (match s.evs ops with | some as => call f (as ++ caps) s fun a s' => k (s'.put o.dst a) | none => .stop 65))
     | none => evL c.P s o k)
def evG (c : Cf) (call : Nat → List AV → AS → (AV → AS → T R) → T R) (ops : Array Oper) (s : AS) (o : Oper) (k : AS → T R) : T R :=
  match o.guard with
  | none => evO c call s o k
  | some (j, w) =>
    (match (match ops[j]? with | some oj => oj.dst | none => none) with
     | some d => (match s.get d with
       | some (.v (.bool b)) =>
         .br b (bif w then evO c call (s.put (some d) (.v (.bool true))) o k else k ((s.put (some d) (.v (.bool true))).put o.dst (.v undef)))
           (bif w then k ((s.put (some d) (.v (.bool false))).put o.dst (.v undef)) else evO c call (s.put (some d) (.v (.bool false))) o k)
       | some (.v (.tuple _)) => k (s.put o.dst (.v undef))
       | _ => .stop 66)
     | none => .stop 67)
def evOps (c : Cf) (call : Nat → List AV → AS → (AV → AS → T R) → T R) (ops : Array Oper) : List Oper → AS → (AS → T R) → T R
  | [], s, k => k s
  | o :: r, s, k => evG c call ops s o fun s' => forceA s' fun s' => evOps c call ops r s' k
def gslot (ops : Array Oper) (o : Oper) : Option Nat :=
  match o.guard with | some (j, _) => (match ops[j]? with | some oj => oj.dst | none => none) | none => none
/-! Regions with guards, all of whose operations leave all as it is: both ways at once -/
def eqB : Bool → Bool → Bool
  | true, b => b
  | false, b => !b
abbrev Cd := List (Nat × Nat × Bool × AV)
def hasA : List (Nat × Bool) → Nat → Bool → Bool
  | [], _, _ => false
  | x :: r, d, w => bif Nat.beq d x.1 && eqB w x.2 then true else hasA r d w
/-- What the temporaries are, where something is supposed. -/
def overC (A : List (Nat × Bool)) (tm : List (Nat × AV)) : Cd → List (Nat × AV)
  | [] => tm
  | (k, d, w, a) :: r => (k, bif hasA A d w then a else .bad) :: overC A tm r
def delC (j : Nat) : Cd → Cd
  | [] => []
  | (k, d, w, a) :: r => bif Nat.beq k j || Nat.beq d j then delC j r else (k, d, w, a) :: delC j r
def delOC (j : Option Nat) (cd : Cd) : Cd := match j with | some j => delC j cd | none => cd
def quietC (P : Program) (s : AS) (cd : Cd) (A : List (Nat × Bool)) (o : Oper) : Option (Bool × AV) :=
  match (match o.op with
    | .pick (.tmp d) x y =>
      (match ({ s with tm := overC A s.tm cd } : AS).ev (.tmp d), ({ s with tm := overC ((d, true) :: A) s.tm cd } : AS).ev x, ({ s with tm := overC ((d, false) :: A) s.tm cd } : AS).ev y with
       | some (.v (.bool c)), some (.v (.bool p)), some (.v (.bool q)) => some (cond c p q)
       | _, _, _ => none)
    | _ => none) with
  | some b => some (true, .v (.bool b))
  | none => evQ P { s with tm := overC A s.tm cd } o
def findC4 : Cd → Nat → Option (Nat × Bool × AV)
  | [], _ => none
  | (k, x) :: r, j => bif Nat.beq k j then some x else findC4 r j
/-- It is not so that a slot holds a Boolean. -/
def notG (s : AS) (cd : Cd) : Nat → Nat → Bool → Option Bool
  | 0, _, _ => none
  | n + 1, d, w =>
    match findC4 cd d with
    | some (d', w', .v (.bool g)) => (match notG s cd n d' w' with | some h => some (h || (match w with | true => !g | false => g)) | none => none)
    | some _ => none
    | none => (match s.get d with | some (.v (.bool g)) => some (match w with | true => !g | false => g) | _ => none)
def runC (P : Program) (ops : Array Oper) : List Oper → AS → Cd → Option (List Bool × AS)
  | [], s, _ => some ([], s)
  | o :: r, s, cd =>
    match o.guard with
    | none => (match quietC P s cd [] o with
      | some (b, a) => (match runC P ops r (s.put o.dst a) (delOC o.dst cd) with | some (bs, s') => some (b :: bs, s') | none => none)
      | none => none)
    | some (_, w) => (match gslot ops o, o.dst with
      | some d, some k => bif Nat.blt k s.n && !Nat.beq d k then (match quietC P s cd [(d, w)] o, notG s cd 4 d w with
        | some (b, a), some g => (match runC P ops r (s.put (some k) .bad) ((k, d, w, a) :: delC k cd) with | some (bs, s') => some ((b || g) :: bs, s') | none => none)
        | _, _ => none) else none
      | _, _ => none)
def brs : List Bool → T R → T R
  | [], t => t
  | b :: r, t => .br b (brs r t) (.stop 98)
def evOpsG (c : Cf) (call : Nat → List AV → AS → (AV → AS → T R) → T R) (ops : Array Oper) (s : AS) (k : AS → T R) : T R :=
  match (bif ops.toList.any (fun o => o.guard.isSome) then runC c.P ops ops.toList s [] else none) with
  | some (bs, s') => brs bs (k s')
  | none => evOps c call ops ops.toList s k
/-! Regions whose operations may come in more than one order -/
def quietO : Op → Bool
  | .move _ => true
  | .assign _ => true
  | .pick _ _ _ => true
  | .load _ _ => true
  | .fieldAddr _ _ _ => true
  | .field _ _ _ => true
  | .indexAddr _ _ _ => true
  | .nilCheck _ => true
  | .extract _ _ => true
  | .makeFunc _ _ _ => true
  | .build _ _ => true
  | .binOp _ _ _ _ _ => true
  | .slice _ _ _ _ _ => true
  | .sliceToArrayPointer _ _ => true
  | .convert _ _ _ => true
  | .unOp _ _ _ => true
  | .index _ _ _ => true
  | .call c => (match c.callee with | .builtin .len => true | .builtin .min => true | .builtin .max => true | _ => false)
  | _ => false
/-- Those that don't look at memory at all. -/
def freeO : Op → Bool
  | .extract _ _ => true
  | .move _ => true
  | .assign _ => true
  | .build _ _ => true
  | _ => false
def freeI (ops : Array Oper) (j : Nat) : Bool := match ops[j]? with | some o => freeO o.op | none => false
def growO : Op → Bool
  | .box _ _ => true
  | .alloc _ => true
  | .makeSlice _ _ _ => true
  | .buildSlice _ _ _ => true
  | _ => false
/-- May it write what lies in memory? -/
def writesO (c : Cf) (o : Oper) : Bool :=
  !(quietO o.op || growO o.op || (match o.op with | .call k => (match k.callee with | .value (.func f) => (findC c.ct f).isSome | _ => false) | _ => false))
/-- What is done before each operation. -/
def cloL (ops : Array Oper) : Nat → List (Nat × List Nat)
  | 0 => []
  | n + 1 => let t := cloL ops n; (n, (preds ops n).foldl (fun m j => join2 (cloOf t j) m) (preds ops n)) :: t
where cloOf : List (Nat × List Nat) → Nat → List Nat
  | [], _ => []
  | x :: r, i => bif Nat.beq x.1 i then x.2 else cloOf r i
def cloOf (ops : Array Oper) (i : Nat) : List Nat := cloL.cloOf (cloL ops ops.size) i
/-- The operations that may be taken at once. -/
def qsOf (c : Cf) (ops : Array Oper) : List Nat :=
  let ws := (List.range ops.size).filterMap fun i => match ops[i]? with | some o => bif writesO c o then some (i, cloOf ops i) else none | none => none
  (List.range ops.size).filter fun k => (match ops[k]? with | some o => quietO o.op | none => false) && (freeI ops k || ws.all fun x => memB k x.2 || memB x.1 (cloOf ops k)) && ((List.range ops.size).all fun i => okQ1 ops k i) && ((List.range ops.size).all fun i => okQ1 ops i k)
/-- None of the others writes what one of those reads, but those before it. -/
def okD (ops : Array Oper) (qs : List Nat) : Bool := okQ ops qs && (List.range ops.size).all fun i => qs.all fun j => okQ1 ops i j
/-- Is an operation wanted, where its guard is known? -/
def wantA (ops : Array Oper) (s : AS) (o : Oper) : Option Bool :=
  match o.guard with
  | none => some true
  | some (_, w) =>
    match gslot ops o with
    | some d => (match s.get d with | some (.v (.bool b)) => some (match b with | true => w | false => !w) | some (.v (.tuple _)) => some false | _ => none)
    | none => none
def readyA (ops : Array Oper) (V : List Nat) : List Nat → List Nat
  | [] => []
  | i :: r => bif memB i V then readyA ops V r else bif subB (preds ops i) V then i :: readyA ops V r else readyA ops V r
/-- A guard that isn't known yet, of those that stand next. -/
def nextG (ops : Array Oper) (L : List Nat) : List Nat → Option Nat
  | [] => none
  | i :: r => (match ops[i]? with | some o => (match gslot ops o with | some d => bif memB d L then nextG ops L r else some d | none => nextG ops L r) | none => nextG ops L r)
/-- An operation that may be taken at once, and what comes of it. -/
def nextQ (c : Cf) (ops : Array Oper) (qs : List Nat) (s : AS) : List Nat → Option (Nat × Oper × Bool × AV)
  | [] => none
  | i :: r => bif memB i qs then (match ops[i]? with
      | some o => (match wantA ops s o with
        | some true => (match evQ c.P s o with | some (b, a) => some (i, o, b, a) | none => nextQ c ops qs s r)
        | some false => some (i, o, true, .v undef)
        | none => nextQ c ops qs s r)
      | none => nextQ c ops qs s r) else nextQ c ops qs s r
def grows (c : Cf) (s : AS) (o : Oper) : Bool :=
  growO o.op || (evQ c.P s o).isSome || (match o.op with | .binOp _ _ _ _ _ => true | _ => false) || (match calleeA s o with | some (f, _, _, _) => (findC c.ct f).isSome | none => false)
def allT (f : Nat → T R) : List Nat → T R
  | [] => .done
  | [i] => f i
  | i :: r => .both (f i) (allT f r)
/-- An operation that is not taken at once. -/
def loudD (c : Cf) (call : Nat → List AV → AS → (AV → AS → T R) → T R) (ops : Array Oper) (qs V : List Nat) (s : AS) (i : Nat) (k : AS → T R) : T R :=
  match ops[i]? with
  | some o => (match wantA ops s o with
    | some true => bif grows c s o || (V.all fun j => !(memB j qs) || memB j (cloOf ops i) || freeI ops j) then evO c call s o k else .stop 90
    | some false => k (s.put o.dst (.v undef))
    | none => .stop 91)
  | none => .stop 92
/-- May a guard be looked at? -/
def gfree (ops : Array Oper) (L : List Nat) (o : Oper) : Bool :=
  match o.guard with
  | none => true
  | some _ => (match gslot ops o with | some d => memB d L | none => false)
/-- An operation that may be taken at once, of those that are looked at first. -/
def fastQ (c : Cf) (ops : Array Oper) (qs V L : List Nat) (s : AS) : List Nat → Option (Nat × Oper × Bool × AV)
  | [] => none
  | i :: r => (match ops[i]? with
    | some o => bif gfree ops L o && memB i qs && !memB i V && subB (preds ops i) V then (match wantA ops s o with
        | some true => (match evQ c.P s o with | some (b, a) => some (i, o, b, a) | none => fastQ c ops qs V L s r)
        | some false => some (i, o, true, .v undef)
        | none => fastQ c ops qs V L s r) else fastQ c ops qs V L s r
    | none => fastQ c ops qs V L s r)
/-- A guard that isn't known yet, of those that are looked at first. -/
def fastG (ops : Array Oper) (V L : List Nat) : List Nat → Option Nat
  | [] => none
  | i :: r => (match ops[i]? with
    | some o => (match gslot ops o with | some d => bif memB d L || !subB (preds ops i) V then fastG ops V L r else some d | none => fastG ops V L r)
    | none => fastG ops V L r)
/-- A list, written out first. -/
def forceL {α : Type 1} : List Nat → (List Nat → α) → α
  | [], k => k []
  | x :: r, k => forceL r fun r' => k (x :: r')
theorem forceL_eq {α : Type 1} : ∀ (l : List Nat) (k : List Nat → α), forceL l k = k l
  | [], _ => rfl
  | x :: r, k => forceL_eq r fun r' => k (x :: r')
def without (i : Nat) : List Nat → List Nat
  | [] => []
  | x :: r => bif Nat.beq x i then r else x :: without i r
def evD (c : Cf) (call : Nat → List AV → AS → (AV → AS → T R) → T R) (ops : Array Oper) (qs : List Nat) : Nat → List Nat → List Nat → List Nat → AS → (AS → T R) → T R
  | 0, V, _, _, s, k => bif subB (List.range ops.size) V then k s else .stop 93
  | n + 1, V, L, H, s, k =>
    match fastQ c ops qs V L s (H.take 4) with
    | some (i, o, b, a) => .br b (forceL (without i H) fun H => forceA (s.put o.dst a) fun s => evD c call ops qs n (i :: V) L H s k) (.stop 95)
    | none =>
      match fastG ops V L (H.take 1) with
      | some d => (match s.get d with
          | some (.v (.bool b)) => .br b (evD c call ops qs n V (d :: L) H (s.put (some d) (.v (.bool true))) k) (evD c call ops qs n V (d :: L) H (s.put (some d) (.v (.bool false))) k)
          | _ => evD c call ops qs n V (d :: L) H s k)
      | none =>
      match readyA ops V (List.range ops.size) with
      | [] => bif subB (List.range ops.size) V then k s else .stop 94
      | rd => (match nextG ops L rd with
        | some d => (match s.get d with
          | some (.v (.bool b)) => .br b (evD c call ops qs n V (d :: L) H (s.put (some d) (.v (.bool true))) k) (evD c call ops qs n V (d :: L) H (s.put (some d) (.v (.bool false))) k)
          | _ => evD c call ops qs n V (d :: L) H s k)
        | none => (match nextQ c ops qs s rd with
          | some (i, o, b, a) => .br b (forceL (without i H) fun H => forceA (s.put o.dst a) fun s => evD c call ops qs n (i :: V) L H s k) (.stop 95)
          | none => allT (fun i => loudD c call ops qs V s i fun s' => forceL (without i H) fun H => evD c call ops qs n (i :: V) L H s' k) rd))
def evR (c : Cf) (call : Nat → List AV → AS → (AV → AS → T R) → T R) (ops : Array Oper) (s : AS) (k : AS → T R) : T R :=
  forceL (qsOf c ops) fun qs => forceL (List.range ops.size) fun H => bif okD ops qs then evD c call ops qs (2 * ops.size + 1) [] [] H s (fun s => k (canonA (allocD ops) s)) else .stop 96
def boolA (s : AS) (x : Operand) : Option Bool := match s.ev x with | some (.v (.bool b)) => some b | _ => none
/-- A variable of the tree's result alone. -/
def nrm (e : Exit) (s : AS) : T AS := match e with | .normal => .ret s | _ => .stop 140
end
abbrev CallT := (R : Type) → Nat → List AV → AS → (AV → AS → T R) → T R
def aiC (c : Cf) (fid : Nat) (call : CallT) : Code → (R : Type) → AS → (Exit → AS → T R) → T R
  | .skip, _, s, k => k .normal s
  | .region _ ops false, R, s, k => evOpsG c (call R) ops s (k .normal)
  | .region _ ops true, R, s, k => evR c (call R) ops s (k .normal)
  | .seq a b, R, s, k => (match findJ c.jn fid (firstR b) with
    | some J => evJoin J s (aiC c fid call a R s) (leafS (aiC c fid call a AS s nrm)) (fun s' => aiC c fid call b R s' k) k
    | none => aiC c fid call a R s fun e s' => match e with | .normal => aiC c fid call b R s' k | e => k e s')
  | .cond x a b, R, s, k => (match boolA s x with | some t => .br t (aiC c fid call a R s k) (aiC c fid call b R s k) | none => (.stop 67))
  | .block id b, R, s, k => aiC c fid call b R s fun e s' => match e with | .exit i => bif Nat.beq i id then k .normal s' else k (.exit i) s' | e => k e s'
  | .loop b, R, s, k => (match findN c.an fid (firstR b) with | some a => evLoop a s (aiC c fid call b R) k | none => (.stop 68))
  | .exit i, _, s, k => k (.exit i) s
  | .label _, _, s, k => k .normal s
  | .ret, _, s, k => k .ret s
  | _, _, _, _ => (.stop 69)
section
variable {R : Type}
/-- A call of a function by its body. -/
def aiE (P : Program) (fn : Func) (s' : AS) (k : AV → AS → T R) : T R :=
  match resA P s' fn.results.toList, s'.fr with
  | some l, (n, tm) :: fr => k (oneA l) { s' with n := n, tm := tm, fr := fr }
  | _, _ => .stop 76
def aiF (c : Cf) : Nat → CallT
  | 0, _, _, _, _, _ => (.stop 70)
  | d + 1, R, f, as, s, k =>
    match findI c.inl f with
    | some fn => bif !Nat.ble as.length fn.ntmps then .stop 68 else (match fn.body with
      | some b => aiC c f (aiF c d) b R { s with n := fn.ntmps, tm := initA 0 as, fr := (s.n, s.tm) :: s.fr } fun e s' => (match e with | .normal => aiE c.P fn s' k | .ret => aiE c.P fn s' k | _ => .stop 77)
      | none => .stop 78)
    | none => .stop 79
end
/-- Which of one's own are results. -/
def nws : K → List AV → List Nat × List AV
  | .sn _ _, .ov m :: r => ([m], r)
  | .sn _ _, r => ([], r.tail)
  | .u, r => ([], r)
  | .p x y, r => let a := nws x r; let b := nws y a.2; (a.1 ++ b.1, b.2)
  | _, r => ([], r.tail)
def nwsL : List K → List AV → List Nat
  | k :: r, a :: as => (match cellsA a with | some cs => (nws k cs).1 | none => []) ++ nwsL r as
  | _, _ => []
def nodupB : List Nat → Bool
  | [] => true
  | x :: r => !memB x r && nodupB r
def okR : K → Bool
  | .sb _ => false
  | .sn e _ => Nat.ble e iterMark
  | .p x y => okR x && okR y
  | _ => true
def okRs : List K → Bool
  | [] => true
  | k :: r => okR k && okRs r
/-- The result of a function. -/
def aiR2 (P : Program) (fn : Func) (rk : List K) (s : AS) : T (Els rk) :=
  match resA P s fn.results.toList with
  | some l => bif okRs rk && nodupB (nwsL rk l) then (match dcArgs s.ow rk l with | some y => .ret y | none => .stop 70) else .stop 97
  | none => .stop 71
def aiR (P : Program) (fn : Func) (rk : List K) (s : AS) : T (Els rk) :=
  match resA P s fn.results.toList with
  | some l => aiR2 P fn rk (s.freezes (given rk l))
  | none => .stop 72
/-- A function by its body. -/
def ai (c : Cf) (f : Nat) (fn : Func) (ks : List K) (rk : List K) (x : Els ks) : T (Els rk) :=
  match fn.body with
  | some b => bif !Nat.ble (packs ks x).length fn.ntmps then .stop 73 else aiC c f (aiF c 9) b (Els rk) { n := fn.ntmps, tm := initA 0 (packs ks x), fr := [], lo := [], ow := [], nx := 0 } fun e s' => (match e with | .normal => aiR c.P fn rk s' | .ret => aiR c.P fn rk s' | _ => .stop 74)
  | none => .stop 75
end Go.Proofs.Ytoiacgfhjikddaa.W
