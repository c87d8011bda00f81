/- An abstract interpreter of the loaded program: values without memory (slices are lists). Definitions alone. -/
import Derived.Orders
import Derived.Laws.AppendOwn
namespace Go.Vai
inductive Pl where
 | slot (n : Nat)
 | lcell (n off : Nat)
 | hcell (b off : Nat)
 deriving Inhabited, DecidableEq
inductive AV where
 | undef
 | sc (v : Value)
 | sl (sz : Nat) (l : List AV)
 | agg (l : List AV)
 | tup (l : List AV)
 | ea (l : List AV)
 | fn (f : FuncId) (cs : List AV)
 | ptr (b off : Nat)
 | cap (own : Bool) (e : TypeId) (l : List AV)
 | box (l : List AV)
 | ref (p : Pl) (ver : Nat)
 | lptr (s ver off : Nat)
 | eaddr (p : Pl) (ver sz i off : Nat)
 | hsl (b off sz len cap : Nat)
 deriving Inhabited
abbrev HH := List (List AV)
inductive Q (α : Type) where
 | ret (a : α)
 | slot (n : Nat) (k : AV → Nat → Q α)
 | heap (k : HH → Nat → Q α)
 | fail
namespace Q
def bind {α β : Type} : Q α → (α → Q β) → Q β
 | .ret a, f => f a
 | .slot n k, f => .slot n fun v i => (k v i).bind f
 | .heap k, f => .heap fun h i => (k h i).bind f
 | .fail, _ => .fail
def lift {α : Type} : Option α → Q α
 | some a => .ret a
 | none => .fail
end Q
inductive W where
 | slot (n : Nat) (v : AV)
 | turn (n : Nat) (v : AV)
 | lcell (n off : Nat) (cs : List AV)
 | hcell (b off : Nat) (cs : List AV)
 | hpush (cs : List AV)
 | heap (H : HH)
structure St where
 tm : List (Nat × AV × Nat)
 vs : List (Nat × AV)
 H : HH
 hv : Nat
def splice (l : List AV) (off : Nat) (m : List AV) : List AV := l.take off ++ m ++ l.drop (off + m.length)
def lookT (n : Nat) : List (Nat × AV × Nat) → Option (AV × Nat)
 | [] => none
 | (m, x) :: r => if Nat.beq m n then some x else lookT n r
def lookV (n : Nat) : List (Nat × AV) → AV
 | [] => .undef
 | (m, x) :: r => if Nat.beq m n then x else lookV n r
def St.get (s : St) (n : Nat) : AV × Nat :=
 match lookT n s.tm with
 | some x => x
 | none => (lookV n s.vs, 0)
def St.set (s : St) (n : Nat) (v : AV) (ver : Nat) : St := { s with tm := (n, v, ver) :: s.tm }
def St.one (s : St) : W → St
 | .slot n v => s.set n v ((s.get n).2 + 1)
 | .turn n v => s.set n v (s.get n).2
 | .lcell n off cs => match (s.get n).1 with
  | .box l => s.set n (.box (splice l off cs)) ((s.get n).2 + 1)
  | _ => s
 | .hcell b off cs => match s.H[b]? with
  | some l => { s with H := s.H.set b (splice l off cs), hv := s.hv + 1 }
  | none => s
 | .hpush cs => { s with H := s.H ++ [cs] }
 | .heap H => { s with H := H, hv := s.hv + 1 }
def St.apply (s : St) : List W → St
 | [] => s
 | w :: r => (s.one w).apply r
def Q.run {α : Type} (s : St) : Q α → Option α
 | .ret a => some a
 | .slot n k => (k (s.get n).1 (s.get n).2).run s
 | .heap k => (k s.H s.hv).run s
 | .fail => none
def Q.runT {α : Type} (s : St) : Q α → List Nat → Option (α × List Nat)
 | .ret a, l => some (a, l)
 | .slot n k, l => (k (s.get n).1 (s.get n).2).runT s ((n + 1) :: l)
 | .heap k, l => (k s.H s.hv).runT s (0 :: l)
 | .fail, _ => none
def pureOf {α : Type} (P : Program) : Sem α → Option α
 | .pure a => some a
 | .program k => pureOf P (k P)
 | .mark _ k => pureOf P k
 | _ => none
def isSc : Value → Bool
 | .bool _ | .int _ _ | .float _ _ | .complex _ _ _ | .string _ | .pointer none | .nilFunc | .nilIface | .map none => true
 | _ => false
structure FH where
 keep : List Nat
 mode : List (Nat × Nat)
 esc : List Nat
 capArgs : List Nat
 capRes : Bool
 live : List (Nat × List Nat)
def modeOf (n : Nat) : List (Nat × Nat) → Nat
 | [] => 0
 | (m, x) :: r => if Nat.beq m n then x else modeOf n r
def mem (n : Nat) : List Nat → Bool
 | [] => false
 | m :: r => Nat.beq m n || mem n r
def itemOf : List AV → AV
 | [x] => x
 | c => .agg c
def bytesU (P : Program) (t : TypeId) : Nat := match P.info? t with | some i => i.bytes | none => 0
def sizeT (P : Program) (t : TypeId) : Nat := match P.info? t with | some i => i.size | none => 0
def aggO (P : Program) (t : TypeId) : Option Bool :=
 match P.underlying t with
 | some (.struct _) | some (.array _ _) => some true
 | some _ => some false
 | none => none
def elemT (P : Program) (t : TypeId) : Option TypeId :=
 match P.underlying t with
 | some (.slice e) => some e
 | _ => none
def strideT (P : Program) (t : TypeId) : Nat := match elemT P t with | some e => sizeT P e | none => 0
def leavesT (P : Program) : Nat → TypeId → List TypeId
 | 0, _ => []
 | n + 1, t =>
  match P.underlying t with
  | some (.struct fs) => fs.toList.flatMap fun f => leavesT P n f.type
  | some (.array k e) => (List.replicate k (leavesT P n e)).flatten
  | _ => [t]
def ofConst (sz : Nat) (v : Value) : Option AV :=
 match v with
 | .slice none 0 0 => some (.sl sz [])
 | v => if isSc v then some (.sc v) else none
def zeroGo (P : Program) : List Value → List TypeId → Option (List AV)
 | [], _ => some []
 | v :: r, ts =>
  match ofConst (strideT P (ts.headD 0)) v, zeroGo P r ts.tail with
  | some a, some b => some (a :: b)
  | _, _ => none
def zeroT (P : Program) (t : TypeId) : Option (List AV) :=
 match P.info? t with
 | some i => (match i.zero with
  | some z => zeroGo P z.cells.toList (leavesT P 8 t)
  | none => none)
 | none => none
def capRow (P : Program) : List AV → List TypeId → List AV
 | [], _ => []
 | v :: r, ts => (match v, elemT P (ts.headD 0) with | .sl _ [], some e => .cap false e [] | v, _ => v) :: capRow P r ts.tail
def capZ (P : Program) (t : TypeId) (m : Nat) (z : List AV) : List AV :=
 if Nat.beq m 0 then z else if Nat.beq m 4 then capRow P z (leavesT P 8 t) else match elemT P t, z with
 | some e, [.sl _ []] => [.cap true e []]
 | _, z => z
def leaf : AV → Bool
 | .sc _ | .sl _ _ | .ea _ | .fn _ _ | .ptr _ _ | .hsl _ _ _ _ _ => true
 | _ => false
def cellsOf : AV → Option (List AV)
 | .agg l => some l
 | v => if leaf v then some [v] else none
def ofCells (a : Bool) (l : List AV) : Option AV :=
 if a then some (.agg l) else match l with | [v] => some v | _ => none
mutual
def np : AV → Bool
 | .undef => true
 | .sc _ => true
 | .sl _ l | .agg l | .tup l | .ea l | .fn _ l | .cap _ _ l => npL l
 | _ => false
def npL : List AV → Bool
 | [] => true
 | v :: r => np v && npL r
end
section
variable (P : Program) (fh : FuncId → FH) (f : FuncId) (call : FuncId → List AV → HH → Option (AV × HH))
def valO (t : TypeId) : Operand → Q AV
 | .tmp n => .slot n fun v ver => .ret (match v with | .cap _ _ _ => .ref (.slot n) ver | .box _ => .lptr n ver 0 | v => v)
 | .const v => .lift (ofConst (strideT P t) v)
 | .func g => .ret (.fn g [])
 | .global _ => .fail
def capAt : Pl → Nat → Q (Bool × TypeId × List AV)
 | .slot s, ver => .slot s fun v ver' => if Nat.beq ver ver' then (match v with | .cap o e l => .ret (o, e, l) | _ => .fail) else .fail
 | .lcell s off, ver => .slot s fun v ver' => if Nat.beq ver ver' then (match v with | .box c => (match c[off]? with | some (.cap o e l) => .ret (o, e, l) | _ => .fail) | _ => .fail) else .fail
 | .hcell b off, ver => .heap fun H ver' => if Nat.beq ver ver' then (match H[b]? with | some c => (match c[off]? with | some (.cap o e l) => .ret (o, e, l) | _ => .fail) | none => .fail) else .fail
def known : AV → Q Unit
 | .lptr n ver _ => .slot n fun _ ver' => if Nat.beq ver ver' then .ret () else .fail
 | .eaddr p ver _ _ _ => (capAt p ver).bind fun _ => .ret ()
 | .ptr _ _ => .ret ()
 | .ea _ => .ret ()
 | _ => .fail
def gone : Pl → W
 | .slot s => .slot s .undef
 | .lcell s off => .lcell s off [.undef]
 | .hcell b off => .hcell b off [.undef]
def share : AV → Q AV
 | .ref p ver => (capAt p ver).bind fun (o, e, l) => if o then .fail else .ret (.sl (sizeT P e) l)
 | .sc v => .ret (.sc v)
 | .sl n l => .ret (.sl n l)
 | .agg l => .ret (.agg l)
 | .ea l => .ret (.ea l)
 | .fn f l => .ret (.fn f l)
 | .ptr b o => .ret (.ptr b o)
 | .hsl b o z l c => .ret (.hsl b o z l c)
 | _ => .fail
def give (t : TypeId) (x : Operand) : AV → Q (AV × List W)
 | .ref p ver => (capAt p ver).bind fun (o, e, l) => .ret (.cap o e l, [gone p])
 | .sl n l => match x with
  | .const _ => (match l, elemT P t with | [], some e => .ret (.cap true e [], []) | _, _ => .fail)
  | _ => .ret (.sl n l, [])
 | v => (share P v).bind fun v => .ret (v, [])
def shareO (t : TypeId) (x : Operand) : Q AV := (valO P t x).bind (share P)
def shareAll : List (TypeId × Operand) → Q (List AV)
 | [] => .ret []
 | (t, x) :: r => (shareO P t x).bind fun v => (shareAll r).bind fun vs => .ret (v :: vs)
def argAll (caps : List Nat) : Nat → List (TypeId × Operand) → Q (List AV × List W)
 | _, [] => .ret ([], [])
 | i, (t, x) :: r => (if mem i caps then (valO P t x).bind (give P t x) else (shareO P t x).bind fun v => .ret (v, [])).bind fun (v, w) => (argAll caps (i + 1) r).bind fun (vs, ws) => .ret (v :: vs, w ++ ws)
def scOf : AV → Option Value
 | .sc v => some v
 | .agg l => (go l).map fun cs => .agg cs.toArray
 | _ => none
where
 go : List AV → Option (List Value)
  | [] => some []
  | .sc v :: r => (go r).map (v :: ·)
  | _ => none
def ofSem (s : Sem Value) : Q AV :=
 match pureOf P s with
 | some v => if isSc v then .ret (.sc v) else .fail
 | none => .fail
def bytesT (t : TypeId) : Option TypeId :=
 match P.underlying t with
 | some (.slice e) => (match P.underlying e with | some (.int .u8) => some e | _ => none)
 | _ => none
def strT (t : TypeId) : Bool :=
 match P.underlying t with
 | some .string => true
 | _ => false
def bytesOf : List AV → Option (List UInt8)
 | [] => some []
 | .sc (.int .u8 n) :: r => (match bytesOf r with | some b => some (UInt8.ofNat n.toNat :: b) | none => none)
 | _ => none
def strV (l : List AV) : Option Value := match bytesOf l with | some b => some (.string ⟨b.toArray⟩) | none => none
def bytesAV (s : ByteArray) : List AV := s.data.toList.map fun b => .sc (.int .u8 b.toNat)
def seen (p : Pl) (ver : Nat) : AV → AV
 | .cap _ _ _ => .ref p ver
 | v => v
def sharedCell : AV → Option AV
 | .cap false e l => some (.sl (sizeT P e) l)
 | v => if leaf v then some v else none
def loadC (t : TypeId) (p : Nat → Pl) (ver : Nat) (l : List AV) (off : Nat) : Q AV :=
 match aggO P t with
 | some true => if Nat.ble (off + sizeT P t) l.length && Nat.ble 1 (sizeT P t) then (match ((l.drop off).take (sizeT P t)).mapM (sharedCell P) with | some c => .ret (.agg c) | none => .fail) else .fail
 | some false => (match l[off]? with | some v => .ret (seen (p off) ver v) | none => .fail)
 | none => .fail
def loadF (t : TypeId) (l : List AV) (off : Nat) : Q AV :=
 match aggO P t with
 | some true => if Nat.ble (off + sizeT P t) l.length && Nat.ble 1 (sizeT P t) then .ret (.agg ((l.drop off).take (sizeT P t))) else .fail
 | some false => (match l[off]? with | some v => .ret v | none => .fail)
 | none => .fail
def fieldOf (t : TypeId) (i : Nat) : Option (Nat × TypeId) :=
 match P.underlying t with
 | some (.struct fs) => match fs[i]? with
  | some fd => if Nat.beq (sizeT P fd.type) 0 then none else some (fd.offset, fd.type)
  | none => none
 | _ => none
def addOff (n : Nat) : AV → Option AV
 | .lptr s v o => some (.lptr s v (o + n))
 | .ptr b o => some (.ptr b (o + n))
 | .ea l => some (.ea (l.drop n))
 | .eaddr p v sz i o => some (.eaddr p v sz i (o + n))
 | _ => none
def one (d : Option Tmp) (v : AV) (ws : List W := []) : Q (List W) :=
 match d with
 | some d => .ret (ws ++ [.slot d v])
 | none => .ret ws
def convE (o : Oper) (t u : TypeId) (v : AV) : Q (List W) :=
 match bytesT P t, bytesT P u, v with
 | some _, none, .sl sz l => if Nat.beq sz 1 && strT P u then (match strV l with | some c => one o.dst (.sc c) | none => .fail) else .fail
 | none, some _, .sc (.string x) => if strT P t then (match o.dst with | some d => one (some d) (.sl 1 (bytesAV x)) | none => .fail) else .fail
 | none, none, .sc a => (ofSem P (convert t u a)).bind fun v => one o.dst v
 | _, _, _ => .fail
def sameE (o : Oper) (v : AV) : Q (List W) :=
 match v, o.dst with
 | .ref p ver, some d => (capAt p ver).bind fun (_, e, l) => if Nat.ble 1 l.length then one (some d) (.sl (sizeT P e) l) [gone p] else .fail
 | _, _ => .fail
def fillG (place : Nat → Option (Nat × Nat)) : List AV → List (Nat × AV) → Option (List AV)
 | z, [] => some z
 | z, (i, v) :: r =>
  match place i, cellsOf v with
  | some (off, sz), some c => if Nat.beq c.length sz && Nat.ble (off + c.length) z.length then fillG place (splice z off c) r else none
  | _, _ => none
def placesT (t : TypeId) : Option (Nat → Option (Nat × Nat)) :=
 match P.underlying t with
 | some (.struct fs) => (fs.toList.mapM (fun f => (P.info? f.type).map fun i => (f.offset, i.size))).map fun l i => l[i]?
 | some (.array _ e) => (P.info? e).map fun ie i => some (i * ie.size, ie.size)
 | _ => none
def partT (t : TypeId) (i : Nat) : TypeId :=
 match P.underlying t with
 | some (.struct fs) => match fs[i]? with | some fd => fd.type | none => 0
 | some (.array _ e) | some (.slice e) => e
 | _ => 0
def sameSize (sz : Nat) : List AV → Bool
 | [] => true
 | v :: r => (match cellsOf v with | some c => Nat.beq c.length sz | none => false) && sameSize sz r
def dense : Nat → List Nat → Bool
 | _, [] => true
 | i, j :: r => Nat.beq i j && dense (i + 1) r
def idxOf : AV → Option Nat
 | .sc (.int _ n) => if 0 ≤ n then some n.toNat else none
 | _ => none
def optIdx (t : TypeId) : Option Operand → Q (Option Nat)
 | none => .ret none
 | some x => (valO P t x).bind fun v => match idxOf v with | some n => .ret (some n) | none => .fail
def vals : List (TypeId × Operand) → Q (List AV)
 | [] => .ret []
 | (t, x) :: r => (valO P t x).bind fun v => (vals r).bind fun vs => .ret (v :: vs)
def roomE (e : TypeId) (sz n m : Nat) : Bool :=
 decide ((n + m) * (match P.info? e with | some i => i.bytes | none => 0) ≤ 140737488355328) && decide (n + m ≤ 9223372036854775807) && Nat.beq sz (sizeT P e) && Nat.ble 1 sz &&
  (match P.info? e with | some i => (match i.zero with | some z => Nat.beq z.cells.size sz | none => false) | none => false)
def builtinE (o : Oper) (b : Builtin) (ts : List TypeId) (xs : List Operand) : Q (List W) :=
 match b, ts, xs with
 | .len, [t], [x] => (valO P t x).bind fun v => match v with
  | .sc (.string s) => (match P.underlying t with | some .string => one o.dst (.sc (.int .i64 s.size)) | _ => .fail)
  | .sl _ l => (match P.underlying t with | some (.slice _) => one o.dst (.sc (.int .i64 l.length)) | _ => .fail)
  | .ref p ver => (match P.underlying t with | some (.slice _) => (capAt p ver).bind fun (_, _, l) => one o.dst (.sc (.int .i64 l.length)) | _ => .fail)
  | .hsl _ _ _ len _ => (match P.underlying t with | some (.slice _) => one o.dst (.sc (.int .i64 len)) | _ => .fail)
  | _ => .fail
 | .clear, [t], [x] => (valO P t x).bind fun v => match v, elemT P t with
  | .hsl b off sz len _, some e => (match zeroT P e with
   | some z => .heap fun H _ => (match H[b]? with
    | some l => if Nat.beq sz (sizeT P e) && Nat.ble 1 (sizeT P e) && Nat.ble 1 len && Nat.beq z.length (sizeT P e) && Nat.ble (off + len * sz) l.length then one o.dst (.tup []) [.hcell b off (List.replicate len z).flatten] else .fail
    | none => .fail)
   | none => .fail)
  | _, _ => .fail
 | .append, [t, u], [x, y] =>
  if Nat.beq t u then
   match elemT P t with
   | some e => (valO P t x).bind fun a => (shareO P t y).bind fun m =>
    match m with
    | .sl sz m => (match a with
     | .sl _ [] => (match x with | .const _ => if roomE P e sz 0 m.length then one o.dst (.cap true e m) else .fail | _ => .fail)
     | .ref p ver => (capAt p ver).bind fun (own, e', l) => if Nat.beq e e' && roomE P e sz l.length m.length then one o.dst (.cap own e (l ++ m)) [gone p] else .fail
     | _ => .fail)
    | _ => .fail
   | none => .fail
  else .fail
 | .min, _, _ | .max, _, _ | .real, _, _ | .imag, _, _ | .complex, _, _ =>
  if Nat.beq ts.length xs.length then (vals P (ts.zip xs)).bind fun vs => match vs.mapM scOf with
   | some cs => (match pureOf P (builtin b ts.toArray o.type (xs.toArray.map fun | .const _ => true | _ => false) cs.toArray) with
    | some (.value v) => if isSc v then one o.dst (.sc v) else .fail
    | _ => .fail)
   | none => .fail
  else .fail
 | _, _, _ => .fail
def storeE (a : AV) (ws : List W) (c : List AV) : Q (List W) :=
 match a with
 | .lptr s ver off => .slot s fun b ver' => if Nat.beq ver ver' then (match b with | .box l => if Nat.ble (off + c.length) l.length then .ret (ws ++ [.lcell s off c]) else .fail | _ => .fail) else .fail
 | .ptr b off => .heap fun H _ => match H[b]? with | some l => if Nat.ble (off + c.length) l.length then .ret (ws ++ [.hcell b off c]) else .fail | none => .fail
 | .eaddr (.slot m) ver sz i off => (capAt (.slot m) ver).bind fun (own, e, l) => match own, l[i]? with
  | true, some w => (match cellsOf w with
   | some cw => if Nat.beq sz (sizeT P e) && Nat.ble (off + c.length) cw.length && c.all leaf then
     (match ofCells (match w with | .agg _ => true | _ => false) (splice cw off c) with
     | some w' => .ret (ws ++ [.turn m (.cap true e (l.set i w'))])
     | none => .fail) else .fail
   | none => .fail)
  | _, _ => .fail
 | _ => .fail
def leavesHere : W → Bool
 | .slot _ _ | .lcell _ _ _ => true
 | _ => false
def callE (o : Oper) (c : Call) (g : FuncId) (cs : List AV) : Q (List W) :=
 (argAll P (fh g).capArgs 0 (c.argTypes.toList.zip c.args.toList)).bind fun (vs, ws) =>
  if Nat.ble ws.length 1 && ws.all leavesHere && Nat.beq c.argTypes.size c.args.size && Nat.blt g 1000000 then
   (if cs.isEmpty && npL vs then
    (match call g vs [] with | some (r, []) => one o.dst r ws | _ => .fail)
   else .heap fun H _ => (match call g (vs ++ cs) H with | some (r, H') => one o.dst r (ws ++ [.heap H']) | none => .fail))
  else .fail
def sortId (g : FuncId) : FuncId := Nat.add g 1000000
def sortE (o : Oper) (c : Call) (g : FuncId) : Q (List W) :=
 match c.argTypes.toList, c.args.toList with
 | [t, u], [x, y] => if Nat.ble P.funcs.size 1000000 then (valO P t x).bind fun a => (shareO P u y).bind fun k => match a, k with
  | .ref (.slot m) ver, .fn k [] => (capAt (.slot m) ver).bind fun (own, e, l) => if own then
    (match call (sortId g) [.cap true e l, .fn k []] [] with
    | some (.cap true e' l', []) => if Nat.beq e e' then one o.dst (.tup []) [.slot m (.cap true e l')] else .fail
    | _ => .fail) else .fail
  | _, _ => .fail else .fail
 | _, _ => .fail
def lastCap : List W → Option (Nat × TypeId × List AV)
 | [] => none
 | [.slot d (.cap true e l)] => some (d, e, l)
 | _ :: r => lastCap r
def weakL (m : Nat) (ws : List W) : List W :=
 if Nat.beq m 1 then (match lastCap ws with | some (d, e, l) => ws ++ [.slot d .undef, .slot d (.cap false e l)] | none => ws) else ws
def valueE (o : Oper) (c : Call) (g : FuncId) (cs : List AV) : Q (List W) :=
 if cs.isEmpty && mem 1000 (fh g).capArgs then sortE P call o c g else callE P fh call o c g cs
def makeE (o : Oper) (t : TypeId) (v w : AV) : Q (List W) :=
 match idxOf v, idxOf w, elemT P t with
 | some i, some j, some e => (match zeroT P e with
  | some z => if Nat.beq i j && Nat.ble (i * bytesU P e) 140737488355328 && Nat.ble i 4611686018427387904 && (Nat.ble 1 (sizeT P e) && Nat.beq z.length (sizeT P e)) then one o.dst (.cap true e (List.replicate i (itemOf z))) else .fail
  | none => .fail)
 | _, _, _ => .fail
def eff (o : Oper) : Q (List W) :=
 match o.op with
 | .move x =>
  match (match o.dst with | some d => modeOf d (fh f).mode | none => 0) with
  | 0 => (valO P o.type x).bind fun v => one o.dst v
  | m => (valO P o.type x).bind fun v => (give P o.type x v).bind fun (v, ws) => match v with
   | .cap own e l => one o.dst (.cap (own && Nat.beq m 2) e l) ws
   | _ => .fail
 | .makeSlice t x y => (valO P 0 x).bind fun v => (valO P 0 y).bind fun w => makeE P o t v w
 | .assign x =>
  match modeOf (o.dst.getD 0) (fh f).mode with
  | 0 => (shareO P o.type x).bind fun v => one o.dst v
  | m => (valO P o.type x).bind fun v => (give P o.type x v).bind fun (v, ws) => match v with
   | .cap own e l => one o.dst (.cap (own && Nat.beq m 2) e l) ws
   | _ => .fail
 | .pick c a b => (valO P 0 c).bind fun c => (valO P o.type a).bind fun a => (valO P o.type b).bind fun b =>
  match c with
  | .sc (.bool t) => one o.dst (if t then a else b)
  | _ => .fail
 | .alloc t => (Q.lift ((zeroT P t).map (capZ P t (modeOf (o.dst.getD 0) (fh f).mode)))).bind fun z =>
  if mem (o.dst.getD 0) (fh f).esc then .heap fun H _ => one o.dst (.ptr H.length 0) [.hpush z] else one o.dst (.box z)
 | .box t x => (shareO P t x).bind fun v => (Q.lift (cellsOf v)).bind fun z =>
  if Nat.beq z.length (sizeT P t) then
   (if Nat.beq (modeOf (o.dst.getD 0) (fh f).mode) 3 then one o.dst (.ea z) else if mem (o.dst.getD 0) (fh f).esc then .heap fun H _ => one o.dst (.ptr H.length 0) [.hpush z] else one o.dst (.box z)) else .fail
 | .nilCheck x => (valO P o.type x).bind fun v => match v with
  | .fn _ _ => one o.dst v
  | _ => (known v).bind fun _ => one o.dst v
 | .fieldAddr t x i => (valO P 0 x).bind fun v => (known v).bind fun _ => match fieldOf P t i with
  | some (off, _) => (Q.lift (addOff off v)).bind fun v => one o.dst v
  | none => .fail
 | .load t x => (valO P 0 x).bind fun v => match v with
  | .lptr s ver off => .slot s fun b ver' => if Nat.beq ver ver' then (match b with | .box l => (loadC P t (.lcell s) ver l off).bind fun v => one o.dst v | _ => .fail) else .fail
  | .ptr b off => .heap fun H hv => match H[b]? with | some l => (loadC P t (.hcell b) hv l off).bind fun v => one o.dst v | none => .fail
  | .ea l => (loadF P t l 0).bind fun v => one o.dst v
  | .eaddr p ver sz i off => (capAt p ver).bind fun (_, e, l) => match (l[i]?).bind cellsOf with
   | some c => if Nat.beq sz (sizeT P e) then (loadF P t c off).bind fun v => one o.dst v else .fail
   | none => .fail
  | _ => .fail
 | .store t x y => (valO P 0 x).bind fun a => (valO P t y).bind fun v => (match a with | .eaddr _ _ _ _ _ => (share P v).bind fun v => .ret (v, []) | _ => give P t y v).bind fun (v, ws) =>
  match (match v with | AV.cap o e l => some [AV.cap o e l] | v => cellsOf v) with
  | some c => if Nat.beq c.length (sizeT P t) && Nat.ble 1 c.length then storeE P a ws c else .fail
  | none => .fail
 | .build t ps => (shareAll P (ps.toList.map fun p => (partT P t p.1, p.2))).bind fun vs => match zeroT P t, placesT P t with
  | some z, some pl => (match fillG pl z ((ps.toList.map (·.1)).zip vs) with | some c => one o.dst (.agg c) | none => .fail)
  | _, _ => .fail
 | .buildSlice t n ps => (shareAll P (ps.toList.map fun p => (partT P t p.1, p.2))).bind fun vs => match elemT P t with
  | some e => (match zeroT P e with
   | some z => if sameSize (sizeT P e) vs && Nat.ble 1 (sizeT P e) && dense 0 (ps.toList.map (·.1)) && Nat.beq vs.length n && Nat.ble (n * sizeT P e) 16777216 && Nat.ble 1 n && Nat.beq z.length (sizeT P e) then (if mem (o.dst.getD 0) (fh f).esc then .heap fun H _ => one o.dst (.hsl H.length 0 (sizeT P e) n n) [.hpush (vs.flatMap fun v => (cellsOf v).getD [])] else one o.dst (.cap false e vs)) else .fail
   | none => .fail)
  | none => .fail
 | .extract x i => (valO P 0 x).bind fun v => match v with
  | .tup l => (match l[i]? with | some v => one o.dst v | none => .fail)
  | _ => .fail
 | .field t x i => (valO P 0 x).bind fun v => match v, fieldOf P t i with
  | .agg l, some (off, u) => (loadF P u l off).bind fun v => one o.dst v
  | _, _ => .fail
 | .index t x i => (valO P 0 x).bind fun v => (valO P 0 i).bind fun w => match v, idxOf w, P.underlying t with
  | .agg l, some i, some (.array n e) => if Nat.blt i n && Nat.ble 1 (sizeT P e) then (loadF P e l (i * sizeT P e)).bind fun v => one o.dst v else .fail
  | .sc (.string s), some i, some .string => (match s[i]? with | some b => one o.dst (.sc (.int .u8 b.toNat)) | none => .fail)
  | _, _, _ => .fail
 | .indexAddr t x i => (valO P t x).bind fun v => (valO P 0 i).bind fun w => match idxOf w, P.underlying t with
  | some i, some (.slice e) => (match v with
   | .sl sz l => if Nat.beq sz (sizeT P e) && Nat.ble 1 sz then (match (l[i]?).bind cellsOf with | some c => one o.dst (.ea c) | none => .fail) else .fail
   | .ref p ver => (capAt p ver).bind fun (_, e', l) => if Nat.beq e e' && Nat.blt i l.length && Nat.ble 1 (sizeT P e) then one o.dst (.eaddr p ver (sizeT P e) i 0) else .fail
   | .hsl b off sz len _ => if Nat.beq sz (sizeT P e) && Nat.blt i len && Nat.ble 1 (sizeT P e) then one o.dst (.ptr b (off + i * sz)) else .fail
   | _ => .fail)
  | some i, some (.array n e) => if Nat.blt i n && Nat.ble 1 (sizeT P e) then (known v).bind fun _ => (Q.lift (addOff (i * sizeT P e) v)).bind fun v => one o.dst v else .fail
  | _, _ => .fail
 | .slice t x lo hi none => (valO P t x).bind fun v => (optIdx P 0 lo).bind fun lo => (optIdx P 0 hi).bind fun hi => match v, P.underlying t with
  | .sc (.string s), some .string => if Nat.ble (lo.getD 0) (hi.getD s.size) && Nat.ble (hi.getD s.size) s.size then one o.dst (.sc (.string (s.extract (lo.getD 0) (hi.getD s.size)))) else .fail
  | .sl sz l, some (.slice e) => if Nat.beq sz (sizeT P e) && Nat.ble (lo.getD 0) (hi.getD l.length) && Nat.ble (hi.getD l.length) l.length && Nat.ble 1 (sizeT P e) then one o.dst (.sl sz ((l.take (hi.getD l.length)).drop (lo.getD 0))) else .fail
  | .ref p ver, some (.slice e) => (capAt p ver).bind fun (own, e', l) =>
   if Nat.beq e e' && Nat.ble (lo.getD 0) (hi.getD l.length) && Nat.ble (hi.getD l.length) l.length && Nat.ble 1 (sizeT P e) then
    (match own, lo with
    | true, none => one o.dst (.cap true e (l.take (hi.getD l.length))) [gone p]
    | false, _ => one o.dst (.sl (sizeT P e) ((l.take (hi.getD l.length)).drop (lo.getD 0)))
    | _, _ => .fail) else .fail
  | .hsl b off sz len cap, some (.slice e) => if Nat.beq sz (sizeT P e) && Nat.ble (lo.getD 0) (hi.getD len) && Nat.ble (hi.getD len) len && Nat.ble len cap && Nat.ble 1 (sizeT P e) then one o.dst (.hsl b (if Nat.beq cap (lo.getD 0) then off else off + lo.getD 0 * sz) sz (hi.getD len - lo.getD 0) (cap - lo.getD 0)) else .fail
  | _, _ => .fail
 | .makeFunc (.func g) first cs => if first.size = 0 then (shareAll P (cs.toList.map fun x => (0, x))).bind fun vs => one o.dst (.fn g vs) else .fail
 | .binOp op t x y _ => (valO P t x).bind fun a => (valO P t y).bind fun b => match scOf a, scOf b with
  | some a, some b => (ofSem P (do eqGuard op t x y a b; binOp op t a b)).bind fun v => one o.dst v
  | _, _ => .fail
 | .unOp op _ x => (valO P 0 x).bind fun a => match a with
  | .sc a => (ofSem P (Op.unary op a)).bind fun v => one o.dst v
  | _ => .fail
 | .convert t u x => if Nat.beq t u && (bytesT P t).isSome then (valO P t x).bind fun v => sameE P o v else (shareO P t x).bind fun v => convE P o t u v
 | .call c =>
  match c.callee with
  | .builtin b => builtinE P o b c.argTypes.toList c.args.toList
  | .value g => (valO P 0 g).bind fun g => match g with
   | .fn g cs => (valueE P fh call o c g cs).bind fun ws => .ret (weakL (modeOf (o.dst.getD 0) (fh f).mode) ws)
   | _ => .fail
  | _ => .fail
 | _ => .fail
inductive Ex where
 | norm | exit (id : Nat) | ret
 deriving DecidableEq, Inhabited
def yieldA (ops : Array Oper) (s : St) (j : Nat) : Option (Option Bool) :=
 match (ops[j]?).bind (·.dst) with
 | some d => (match (s.get d).1 with | .sc (.bool b) => some (some b) | .tup [] => some none | _ => none)
 | none => none
def wantedA (ops : Array Oper) (s : St) (o : Oper) : Option Bool :=
 match o.guard with
 | none => some true
 | some (j, want) => (yieldA ops s j).map (· == some want)
def shapeOk (o : Oper) : Bool :=
 match o.op with
 | .store _ _ _ => o.dst.isNone
 | .makeSlice _ _ _ => o.dst.isSome
 | .alloc _ | .box _ _ | .buildSlice _ _ _ | .slice _ _ _ _ _ | .assign _ => o.dst.isSome
 | .call c => (match c.callee with | .builtin .append => o.dst.isSome | _ => true)
 | _ => true
def dstOk (nt : Nat) (o : Oper) : Bool :=
 match o.dst with
 | some d => Nat.blt d nt
 | none => true
def stepA (nt : Nat) (ops : Array Oper) (s : St) (o : Oper) : Option St :=
 if dstOk nt o && shapeOk o then
  match wantedA ops s o with
  | some true => ((eff P fh f call o).run s).map s.apply
  | some false => some (match o.dst with | some d => s.one (.slot d (.tup [])) | none => s)
  | none => none
 else none
def stepsA (nt : Nat) (ops : Array Oper) : List Oper → St → Option St
 | [], s => some s
 | o :: r, s => match stepA P fh f call nt ops s o with | some s' => stepsA nt ops r s' | none => none
def norm1 (s : St) : AV → AV
 | .ref p ver => match (capAt p ver).run s with
  | some (false, e, l) => .sl (sizeT P e) l
  | _ => .undef
 | .lptr _ _ _ | .eaddr _ _ _ _ _ => .undef
 | v => v
def liveOf (id : Nat) : List (Nat × List Nat) → List Nat
 | [] => []
 | (m, x) :: r => if Nat.beq m id then x else liveOf id r
def tidy (id : Nat) (s : St) : St := ⟨[], (liveOf id (fh f).live).map fun n => (n, norm1 P s (s.get n).1), s.H, 0⟩
def iterA (step : St → Option (Ex × St)) : Nat → St → Option (Ex × St)
 | 0, _ => none
 | n + 1, s => match step s with
  | some (.norm, s') => iterA step n s'
  | r => r
def W.key : W → Nat
 | .slot n _ | .turn n _ | .lcell n _ _ => n + 1
 | .hcell _ _ _ | .hpush _ | .heap _ => 0
def guardR (ops : Array Oper) (o : Oper) : List Nat :=
 match o.guard with
 | none => []
 | some (j, _) => match (ops[j]?).bind (·.dst) with | some d => [d + 1] | none => []
def stepT (nt : Nat) (ops : Array Oper) (s : St) (o : Oper) : Option (List W × List Nat) :=
 if dstOk nt o && shapeOk o then
  match wantedA ops s o with
  | some true => (eff P fh f call o).runT s (guardR ops o)
  | some false => some (match o.dst with | some d => [.slot d (.tup [])] | none => [], guardR ops o)
  | none => none
 else none
def stepsT (nt : Nat) (ops : Array Oper) : List Oper → St → Option (St × List (List Nat × List Nat))
 | [], s => some (s, [])
 | o :: r, s => match stepT P fh f call nt ops s o with
  | some (ws, rd) => (match stepsT nt ops r (s.apply ws) with
   | some (s', tr) => some (s', (rd, ws.map W.key) :: tr)
   | none => none)
  | none => none
def edges (o : Oper) : List Nat := o.after.toList.filterMap fun e => if Region.binds .any e then some e.on else none
def edgesAt (ops : Array Oper) (j : Nat) : List Nat := match ops[j]? with | some o => edges o | none => []
def reach (ops : Array Oper) (i : Nat) : Nat → Nat → Bool
 | 0, _ => false
 | k + 1, j => mem i (edgesAt ops j) || (edgesAt ops j).any (reach ops i k)
def meets (x y : List Nat) : Bool := x.any fun n => mem n y
def conf (x y : List Nat × List Nat) : Bool := meets x.2 y.1 || meets x.2 y.2 || meets y.2 x.1
def orderly (ops : Array Oper) (tr : List (List Nat × List Nat)) : Bool :=
 P.follows .mixedOrders && ((List.range ops.size).all fun j => (edgesAt ops j).all (Nat.blt · j)) &&
  ((List.range ops.size).all fun j => (List.range j).all fun i => !conf (tr.getD i ([], [])) (tr.getD j ([], [])) || reach ops i ops.size j)
def exec (nt : Nat) (n : Nat) : Code → St → Option (Ex × St)
 | .skip, s => some (.norm, s)
 | .region id ops false, s =>
  match stepsA P fh f call nt ops ops.toList s with
  | some s' => some (.norm, tidy P fh f id s')
  | none => none
 | .region id ops true, s =>
  match stepsT P fh f call nt ops ops.toList s with
  | some (s', tr) => if orderly P ops tr then some (.norm, tidy P fh f id s') else none
  | none => none
 | .seq a b, s => match exec nt n a s with
  | some (.norm, s') => exec nt n b s'
  | r => r
 | .cond c a b, s => match (valO P 0 c).run s with
  | some (.sc (.bool t)) => if t then exec nt n a s else exec nt n b s
  | _ => none
 | .block id c, s => match exec nt n c s with
  | some (.exit i, s') => some (if Nat.beq i id then .norm else .exit i, s')
  | r => r
 | .loop c, s => iterA (exec nt n c) n s
 | .exit id, s => some (.exit id, s)
 | .ret, s => some (.ret, s)
 | .scope c, s => exec nt n c s
 | .label _, s => some (.norm, s)
 | _, _ => none
def resA (s : St) : ResultVar → Option (AV × St)
 | .tmp t => match (s.get t).1 with
  | .cap own e l => some (if (fh f).capRes then .cap own e l else .sl (sizeT P e) l, s.one (gone (.slot t)))
  | .ref _ _ | .lptr _ _ _ | .eaddr _ _ _ _ _ | .box _ | .undef => none
  | v => some (v, s)
 | .cell a t => match (s.get a).1 with
  | .box l => (match (loadC P t (.lcell a) (s.get a).2 l 0).run s with
   | some (.ref p ver) => ((share P (.ref p ver)).run s).map fun v => (v, s)
   | some .undef | some (.lptr _ _ _) | some (.eaddr _ _ _ _ _) => none
   | some v => some (v, s)
   | none => none)
  | _ => none
def resAll (s : St) : List ResultVar → Option (List AV × St)
 | [] => some ([], s)
 | r :: rs => match resA P fh f s r with
  | some (v, s) => (match resAll s rs with
   | some (vs, s) => some (v :: vs, s)
   | none => none)
  | none => none
end
def chunk (sz : Nat) : Nat → List AV → List AV
 | 0, _ => []
 | k + 1, l => itemOf (l.take sz) :: chunk sz k (l.drop sz)
def leaveA (H : HH) (r : AV) (H' : HH) : Option (AV × HH) :=
 if Nat.beq H'.length H.length then some (r, H')
 else match r with
 | .hsl b off sz len cap => (match H'[b]? with
  | some l => if Nat.ble H.length b && Nat.ble H.length H'.length && (H'.take H.length).all npL && npL l && Nat.ble len cap && Nat.ble 1 sz && Nat.ble (off + len * sz) l.length && l.all leaf then some (.sl sz (chunk sz len (l.drop off)), H'.take H.length) else none
  | none => none)
 | r => if np r && (H'.take H.length).all npL && Nat.ble H.length H'.length then some (r, H'.take H.length) else none
def bodyA (P : Program) (fh : FuncId → FH) (k : Nat) (call : FuncId → List AV → HH → Option (AV × HH)) (f : FuncId) (args : List AV) (H : HH) : Option (AV × HH) :=
 match P.funcs[f]? with
 | some fn =>
  match fn.body with
  | some c =>
   if Nat.beq args.length (fn.params.size + fn.nfree) && Nat.ble args.length fn.ntmps && (fh f).keep.all (fun n => Nat.blt n fn.ntmps) && !(fn.name == "runtime.NumGoroutine") then
    match exec P fh f call fn.ntmps k c ⟨[], (fh f).keep.map fun n => (n, args.getD n .undef), H, 0⟩ with
    | some (.exit _, _) => none
    | some (_, s) =>
     (match fn.results.toList with
     | [r] => (match resA P fh f s r with | some (v, s) => leaveA H v s.H | none => none)
     | rs => (match resAll P (fun g => { fh g with capRes := false }) f s rs with | some (vs, s) => leaveA H (.tup vs) s.H | none => none))
    | none => none
   else none
  | none => none
 | none => none
def run (P : Program) (fh : FuncId → FH) (ext : FuncId → Option (List AV → HH → Option (AV × HH))) : Nat → FuncId → List AV → HH → Option (AV × HH)
 | 0, _, _, _ => none
 | k + 1, f, args, H =>
  match ext f with
  | some g => g args H
  | none => bodyA P fh k (run P fh ext k) f args H
end Go.Vai
