/- The interpreter with values that are not known: what is asked of them is told ahead (hints) and gathered as conditions. Operations. -/
import Derived.Test.YtcjcdammcmjbnaaGreatVaiS
namespace Go.Vai
inductive QH (α : Type) where
  | ret (a : α)
  | slot (n : Nat) (k : AV → Nat → QH α)
  | heap (k : HH → Nat → QH α)
  | fail
  | dec (b : Bool) (k : Bool → QH α)
  | getO (t : TypeId) (o : Option AV) (k : AV → QH α)
  | val (o : Option Value) (k : Value → QH α)
  | res (g : FuncId) (vs : List AV) (H : HH) (k : AV → HH → QH α)
  | nat (n : Nat) (k : Nat → QH α)
namespace QH
def bind {α β : Type} : QH α → (α → QH β) → QH β
  | .ret a, f => f a
  | .slot n k, f => .slot n fun v i => (k v i).bind f
  | .heap k, f => .heap fun h i => (k h i).bind f
  | .fail, _ => .fail
  | .dec b k, f => .dec b fun t => (k t).bind f
  | .getO t o k, f => .getO t o fun v => (k v).bind f
  | .val o k, f => .val o fun v => (k v).bind f
  | .res g vs H k, f => .res g vs H fun r H' => (k r H').bind f
  | .nat n k, f => .nat n fun j => (k j).bind f
def erase {α : Type} (call : FuncId → List AV → HH → Option (AV × HH)) : QH α → Q α
  | .ret a => .ret a
  | .slot n k => .slot n fun v i => (k v i).erase call
  | .heap k => .heap fun h i => (k h i).erase call
  | .fail => .fail
  | .dec b k => (k b).erase call
  | .getO _ o k => match o with | some v => (k v).erase call | none => .fail
  | .val o k => match o with | some v => (k v).erase call | none => .fail
  | .res g vs H k => match call g vs H with | some (r, H') => (k r H').erase call | none => .fail
  | .nat n k => (k n).erase call
end QH
def Q.toH {α : Type} : Q α → QH α
  | .ret a => .ret a
  | .slot n k => .slot n fun v i => (k v i).toH
  | .heap k => .heap fun h i => (k h i).toH
  | .fail => .fail
theorem erase_toH {α : Type} (call : FuncId → List AV → HH → Option (AV × HH)) (q : Q α) : q.toH.erase call = q := by
  induction q with
  | ret a => rfl
  | slot n k ih => simp only [Q.toH, QH.erase, ih]
  | heap k ih => simp only [Q.toH, QH.erase, ih]
  | fail => rfl
theorem erase_bind {α β : Type} (call : FuncId → List AV → HH → Option (AV × HH)) (q : QH α) (f : α → QH β) : (q.bind f).erase call = (q.erase call).bind fun a => (f a).erase call := by
  induction q with
  | ret a => rfl
  | slot n k ih => simp only [QH.bind, QH.erase, Q.bind, ih]
  | heap k ih => simp only [QH.bind, QH.erase, Q.bind, ih]
  | fail => rfl
  | dec b k ih => exact ih b
  | getO t o k ih => cases o with | none => rfl | some v => exact ih v
  | val o k ih => cases o with | none => rfl | some v => exact ih v
  | nat n k ih => exact ih n
  | res g vs H k ih =>
    simp only [QH.bind, QH.erase]
    cases call g vs H with
    | none => rfl
    | some r => exact ih r.1 r.2
section
variable (P : Program) (fh : FuncId → FH) (f : FuncId)
def QH.need {α : Type} (b : Bool) (k : QH α) : QH α := .dec b fun t => if t then k else .fail
def idxH {α : Type} (w : AV) (k : Nat → QH α) : QH α :=
  match w with
  | .sc (.int _ n) => .dec (decide (0 ≤ n)) fun t => if t then .nat n.toNat k else .fail
  | _ => .fail
def optIdxH {α : Type} (t : TypeId) (x : Option Operand) (k : Option Nat → QH α) : QH α :=
  match x with
  | none => k none
  | some x => (valO P t x).toH.bind fun v => idxH v fun n => k (some n)
def loadFH (t : TypeId) (l : List AV) (off : Nat) : QH AV :=
  match aggO P t with
  | some true => if Nat.ble 1 (sizeT P t) then .need (Nat.ble (off + sizeT P t) l.length) (.ret (.agg ((l.drop off).take (sizeT P t)))) else .fail
  | some false => .getO t (l[off]?) fun v => .ret v
  | none => .fail
def binV (op : BinOp) (t : TypeId) (x y : Operand) (a b : Value) : Option Value := pureOf P (do eqGuard op t x y a b; binOp op t a b)
def semV (o : Oper) (v : Option Value) : QH (List W) := .val v fun v => if isSc v then (one o.dst (.sc v)).toH else .fail
def semH (o : Oper) (s : Sem Value) : QH (List W) := semV o (pureOf P s)
def sameH (o : Oper) (v : AV) : QH (List W) :=
  match v, o.dst with
  | .ref p ver, some d => (capAt p ver).toH.bind fun (_, e, l) => .need (Nat.ble 1 l.length) (one (some d) (.sl (sizeT P e) l) [gone p]).toH
  | _, _ => .fail
def convH (o : Oper) (t u : TypeId) (v : AV) : QH (List W) :=
  match bytesT P t, bytesT P u, v with
  | some _, none, .sl sz l => if Nat.beq sz 1 && strT P u then .val (strV l) fun c => (one o.dst (.sc c)).toH else .fail
  | none, some _, .sc (.string x) => if strT P t then (match o.dst with | some d => (one (some d) (.sl 1 (bytesAV x))).toH | none => .fail) else .fail
  | none, none, .sc a => semH P o (convert t u a)
  | _, _, _ => .fail
def roomC (e : TypeId) (sz : Nat) : Bool := Nat.beq sz (sizeT P e) && Nat.ble 1 sz && (match P.info? e with | some i => (match i.zero with | some z => Nat.beq z.cells.size sz | none => false) | none => false)
def roomD (e : TypeId) (n m : Nat) : Bool := decide ((n + m) * (match P.info? e with | some i => i.bytes | none => 0) ≤ 140737488355328) && decide (n + m ≤ 9223372036854775807)
def appendH (o : Oper) (t : TypeId) (x y : Operand) (e : TypeId) : QH (List W) :=
  (valO P t x).toH.bind fun a => (shareO P t y).toH.bind fun m =>
    match m with
    | .sl sz m => (match a with
      | .sl _ [] => (match x with | .const _ => if roomC P e sz then .need (roomD P e 0 m.length) (one o.dst (.cap true e m)).toH else .fail | _ => .fail)
      | .ref p ver => (capAt p ver).toH.bind fun (own, e', l) => if Nat.beq e e' && roomC P e sz then .need (roomD P e l.length m.length) (one o.dst (.cap own e (l ++ m)) [gone p]).toH else .fail
      | _ => .fail)
    | _ => .fail
def builtinH (o : Oper) (b : Builtin) (ts : List TypeId) (xs : List Operand) : QH (List W) :=
  match b, ts, xs with
  | .append, [t, u], [x, y] => if Nat.beq t u then (match elemT P t with | some e => appendH P o t x y e | none => .fail) else .fail
  | .min, _, _ | .max, _, _ | .real, _, _ | .imag, _, _ | .complex, _, _ =>
    if Nat.beq ts.length xs.length then (vals P (ts.zip xs)).toH.bind fun vs => match vs.mapM scOf with
      | some cs => .val ((pureOf P (builtin b ts.toArray o.type (xs.toArray.map fun | .const _ => true | _ => false) cs.toArray)).bind fun | .value v => some v | _ => none) fun v => if isSc v then (one o.dst (.sc v)).toH else .fail
      | none => .fail
    else .fail
  | _, _, _ => (builtinE P o b ts xs).toH
def callH (o : Oper) (c : Call) (g : FuncId) (cs : List AV) : QH (List W) :=
  (argAll P (fh g).capArgs 0 (c.argTypes.toList.zip c.args.toList)).toH.bind fun (vs, ws) =>
    if Nat.ble ws.length 1 && ws.all leavesHere && Nat.beq c.argTypes.size c.args.size && Nat.blt g 1000000 then
      (if cs.isEmpty then
        .dec (npL vs) fun t => if t then .res g vs [] fun r H' => (match H' with | [] => (one o.dst r ws).toH | _ => .fail)
          else .heap fun H _ => .res g (vs ++ cs) H fun r H' => (one o.dst r (ws ++ [.heap H'])).toH
      else .heap fun H _ => .res g (vs ++ cs) H fun r H' => (one o.dst r (ws ++ [.heap H'])).toH)
    else .fail
def sortH (o : Oper) (c : Call) (g : FuncId) : QH (List W) :=
  match c.argTypes.toList, c.args.toList with
  | [t, u], [x, y] => if Nat.ble P.funcs.size 1000000 then (valO P t x).toH.bind fun a => (shareO P u y).toH.bind fun k => match a, k with
    | .ref (.slot m) ver, .fn k [] => (capAt (.slot m) ver).toH.bind fun (own, e, l) => if own then
        .res (sortId g) [.cap true e l, .fn k []] [] fun r H' => (match r, H' with
        | .cap true e' l', [] => if Nat.beq e e' then (one o.dst (.tup []) [.slot m (.cap true e l')]).toH else .fail
        | _, _ => .fail) else .fail
    | _, _ => .fail else .fail
  | _, _ => .fail
def valueH (o : Oper) (c : Call) (g : FuncId) (cs : List AV) : QH (List W) :=
  if cs.isEmpty && mem 1000 (fh g).capArgs then sortH P o c g else callH P fh o c g cs
def makeH (o : Oper) (t : TypeId) (i j : Nat) : QH (List W) :=
  match elemT P t with
  | some e => (match zeroT P e with
    | some z => if Nat.ble 1 (sizeT P e) && Nat.beq z.length (sizeT P e) then .need (Nat.beq i j && Nat.ble (i * bytesU P e) 140737488355328 && Nat.ble i 4611686018427387904) (one o.dst (.cap true e (List.replicate i (itemOf z)))).toH else .fail
    | none => .fail)
  | none => .fail
def storeH (a : AV) (ws : List W) (c : List AV) : QH (List W) :=
  match a with
  | .eaddr (.slot m) ver sz i off => (capAt (.slot m) ver).toH.bind fun (own, e, l) => if own then .getO e (l[i]?) fun w => (match cellsOf w with
      | some cw => if Nat.beq sz (sizeT P e) && Nat.ble (off + c.length) cw.length && c.all leaf then
          (match ofCells (match w with | .agg _ => true | _ => false) (splice cw off c) with
          | some w' => .ret (ws ++ [.turn m (.cap true e (l.set i w'))])
          | none => .fail) else .fail
      | none => .fail) else .fail
  | a => (storeE P a ws c).toH
def effH (o : Oper) : QH (List W) :=
  match o.op with
  | .makeSlice t x y => (valO P 0 x).toH.bind fun v => (valO P 0 y).toH.bind fun w => idxH v fun i => idxH w fun j => makeH P o t i j
  | .pick c a b => (valO P 0 c).toH.bind fun c => (valO P o.type a).toH.bind fun a => (valO P o.type b).toH.bind fun b =>
    match c with
    | .sc (.bool t) => .dec t fun t => (one o.dst (if t then a else b)).toH
    | _ => .fail
  | .load t x => (valO P 0 x).toH.bind fun v => match v with
    | .eaddr p ver sz i off => (capAt p ver).toH.bind fun (_, e, l) => .getO e (l[i]?) fun w => match cellsOf w with
      | some c => if Nat.beq sz (sizeT P e) then (loadF P t c off).toH.bind fun v => (one o.dst v).toH else .fail
      | none => .fail
    | .lptr s ver off => .slot s fun b ver' => if Nat.beq ver ver' then (match b with | .box l => (loadC P t (.lcell s) ver l off).toH.bind fun v => (one o.dst v).toH | _ => .fail) else .fail
    | .ptr b off => .heap fun H hv => match H[b]? with | some l => (loadC P t (.hcell b) hv l off).toH.bind fun v => (one o.dst v).toH | none => .fail
    | .ea l => (loadF P t l 0).toH.bind fun v => (one o.dst v).toH
    | _ => .fail
  | .store t x y => (valO P 0 x).toH.bind fun a => (valO P t y).toH.bind fun v => (match a with | .eaddr _ _ _ _ _ => (share P v).bind fun v => .ret (v, []) | _ => give P t y v).toH.bind fun (v, ws) =>
    match (match v with | AV.cap o e l => some [AV.cap o e l] | v => cellsOf v) with
    | some c => if Nat.beq c.length (sizeT P t) && Nat.ble 1 c.length then storeH P a ws c else .fail
    | none => .fail
  | .index t x i => (valO P 0 x).toH.bind fun v => (valO P 0 i).toH.bind fun w => idxH w fun i => match v, P.underlying t with
    | .agg l, some (.array n e) => if Nat.ble 1 (sizeT P e) then .need (Nat.blt i n) ((loadFH P e l (i * sizeT P e)).bind fun v => (one o.dst v).toH) else .fail
    | .sc (.string s), some .string => .val ((s[i]?).map fun b => .int .u8 b.toNat) fun v => (one o.dst (.sc v)).toH
    | _, _ => .fail
  | .indexAddr t x i => (valO P t x).toH.bind fun v => (valO P 0 i).toH.bind fun w => idxH w fun i => match P.underlying t with
    | some (.slice e) => (match v with
      | .sl sz l => if Nat.beq sz (sizeT P e) && Nat.ble 1 sz then .getO e (l[i]?) fun x => (match cellsOf x with | some c => (one o.dst (.ea c)).toH | none => .fail) else .fail
      | .ref p ver => (capAt p ver).toH.bind fun (_, e', l) => if Nat.beq e e' && Nat.ble 1 (sizeT P e) then .need (Nat.blt i l.length) (one o.dst (.eaddr p ver (sizeT P e) i 0)).toH else .fail
      | .hsl b off sz len _ => if Nat.beq sz (sizeT P e) && Nat.ble 1 (sizeT P e) then .need (Nat.blt i len) (one o.dst (.ptr b (off + i * sz))).toH else .fail
      | _ => .fail)
    | some (.array n e) => if Nat.ble 1 (sizeT P e) then .need (Nat.blt i n) ((known v).toH.bind fun _ => (Q.lift (addOff (i * sizeT P e) v)).toH.bind fun v => (one o.dst v).toH) else .fail
    | _ => .fail
  | .slice t x lo hi none => (valO P t x).toH.bind fun v => optIdxH P 0 lo fun lo => optIdxH P 0 hi fun hi => match v, P.underlying t with
    | .sc (.string s), some .string => .need (Nat.ble (lo.getD 0) (hi.getD s.size) && Nat.ble (hi.getD s.size) s.size) (one o.dst (.sc (.string (s.extract (lo.getD 0) (hi.getD s.size))))).toH
    | .sl sz l, some (.slice e) => if Nat.beq sz (sizeT P e) && Nat.ble 1 (sizeT P e) then .need (Nat.ble (lo.getD 0) (hi.getD l.length) && Nat.ble (hi.getD l.length) l.length) (one o.dst (.sl sz ((l.take (hi.getD l.length)).drop (lo.getD 0)))).toH else .fail
    | .ref p ver, some (.slice e) => (capAt p ver).toH.bind fun (own, e', l) =>
      if Nat.beq e e' && Nat.ble 1 (sizeT P e) then
        .need (Nat.ble (lo.getD 0) (hi.getD l.length) && Nat.ble (hi.getD l.length) l.length) (match own, lo with
        | true, none => (one o.dst (.cap true e (l.take (hi.getD l.length))) [gone p]).toH
        | false, _ => (one o.dst (.sl (sizeT P e) ((l.take (hi.getD l.length)).drop (lo.getD 0)))).toH
        | _, _ => .fail) else .fail
    | .hsl b off sz len cap, some (.slice e) => if Nat.beq sz (sizeT P e) && Nat.ble len cap && Nat.ble 1 (sizeT P e) then .need (Nat.ble (lo.getD 0) (hi.getD len) && Nat.ble (hi.getD len) len) (one o.dst (.hsl b (if Nat.beq cap (lo.getD 0) then off else off + lo.getD 0 * sz) sz (hi.getD len - lo.getD 0) (cap - lo.getD 0))).toH else .fail
    | _, _ => .fail
  | .binOp op t x y _ => (valO P t x).toH.bind fun a => (valO P t y).toH.bind fun b => match scOf a, scOf b with
    | some a, some b => semV o (binV P op t x y a b)
    | _, _ => .fail
  | .unOp op _ x => (valO P 0 x).toH.bind fun a => match a with
    | .sc a => semH P o (Op.unary op a)
    | _ => .fail
  | .convert t u x => if Nat.beq t u && (bytesT P t).isSome then (valO P t x).toH.bind fun v => sameH P o v else (shareO P t x).toH.bind fun v => convH P o t u v
  | .call c =>
    match c.callee with
    | .builtin b => builtinH P o b c.argTypes.toList c.args.toList
    | .value g => (valO P 0 g).toH.bind fun g => match g with
      | .fn g cs => (valueH P fh o c g cs).bind fun ws => .ret (weakL (modeOf (o.dst.getD 0) (fh f).mode) ws)
      | _ => .fail
    | _ => .fail
  | _ => (eff P fh f (fun _ _ _ => none) o).toH
end
section
variable {P : Program} {fh : FuncId → FH} {f : FuncId} {call : FuncId → List AV → HH → Option (AV × HH)} {o : Oper}
theorem erase_getO {α : Type} (t : TypeId) (x : Option AV) (k : AV → QH α) : (QH.getO t x k).erase call = match x with | some v => (k v).erase call | none => Q.fail := by cases x <;> rfl
theorem erase_val {α : Type} (x : Option Value) (k : Value → QH α) : (QH.val x k).erase call = match x with | some v => (k v).erase call | none => Q.fail := by cases x <;> rfl
theorem erase_res {α : Type} (g : FuncId) (vs : List AV) (H : HH) (k : AV → HH → QH α) : (QH.res g vs H k).erase call = match call g vs H with | some (r, H') => (k r H').erase call | none => Q.fail := by
  simp only [QH.erase]
theorem erase_need {α : Type} (b : Bool) (k : QH α) : (QH.need b k).erase call = if b then k.erase call else .fail := by
  simp only [QH.need, QH.erase]
  cases b <;> rfl
theorem erase_if {α : Type} (b : Bool) (k l : QH α) : (if b then k else l).erase call = if b then k.erase call else l.erase call := by cases b <;> rfl
theorem erase_idx {α : Type} (w : AV) (k : Nat → QH α) : (idxH w k).erase call = match idxOf w with | some i => (k i).erase call | none => .fail := by
  cases w with
  | sc v =>
    cases v with
    | int kd n =>
      simp only [idxH, idxOf, QH.erase]
      by_cases h : 0 ≤ n
      · simp [h, QH.erase]
      · simp [h, QH.erase]
    | _ => rfl
  | _ => rfl
theorem erase_optIdx {α : Type} (t : TypeId) (x : Option Operand) (k : Option Nat → QH α) : (optIdxH P t x k).erase call = (optIdx P t x).bind fun i => (k i).erase call := by
  cases x with
  | none => rfl
  | some x =>
    simp only [optIdxH, optIdx, erase_bind, erase_toH]
    have : ∀ (q : Q AV), (q.bind fun v => (idxH v fun n => k (some n)).erase call) = (q.bind fun v => match idxOf v with | some n => Q.ret (some n) | none => Q.fail).bind fun i => (k i).erase call := fun q => by
      induction q with
      | ret v =>
        simp only [Q.bind, erase_idx]
        cases idxOf v <;> rfl
      | slot n g ih => simp only [Q.bind, ih]
      | heap g ih => simp only [Q.bind, ih]
      | fail => rfl
    exact this _
theorem bind_congr {α β : Type} {q : Q α} {f g : α → Q β} (h : ∀ a, f a = g a) : q.bind f = q.bind g := by
  have : f = g := funext h
  rw [this]
theorem erase_loadF (t : TypeId) (l : List AV) (off : Nat) : (loadFH P t l off).erase call = loadF P t l off := by
  unfold loadFH loadF
  cases aggO P t with
  | none => rfl
  | some b =>
    cases b with
    | true =>
      simp only [erase_if, erase_need]
      cases Nat.ble 1 (sizeT P t) <;> cases Nat.ble (off + sizeT P t) l.length <;> rfl
    | false =>
      simp only []
      cases l[off]? <;> rfl
theorem erase_sem (s : Sem Value) : (semH P o s).erase call = (ofSem P s).bind fun v => one o.dst v := by
  unfold semH semV ofSem
  cases pureOf P s with
  | none => rfl
  | some v =>
    show QH.erase call (if isSc v = true then (one o.dst (.sc v)).toH else .fail) = _
    simp only [erase_if, erase_toH]
    cases isSc v <;> rfl
theorem erase_same (o : Oper) (v : AV) : (sameH P o v).erase call = sameE P o v := by
  unfold sameH sameE
  generalize o.dst = y
  cases v <;> cases y <;> try rfl
  simp only [erase_bind, erase_toH]
  refine bind_congr fun a => ?_
  simp only [erase_need]
  cases Nat.ble 1 a.2.2.length <;> first | rfl | exact erase_toH _ _
theorem erase_conv (o : Oper) (t u : TypeId) (v : AV) : (convH P o t u v).erase call = convE P o t u v := by
  unfold convH convE
  generalize bytesT P t = x
  generalize bytesT P u = y
  cases x <;> cases y <;> cases v <;> try rfl
  · exact erase_sem _
  · rename_i c
    cases c <;> try rfl
    simp only
    split
    · cases o.dst with
      | none => rfl
      | some d => exact erase_toH _ _
    · rfl
  · rename_i sz l
    simp only
    split
    · cases strV l with
      | none => rfl
      | some c => exact erase_toH _ _
    · rfl
theorem room_eq (e : TypeId) (sz n m : Nat) : roomE P e sz n m = (roomD P e n m && roomC P e sz) := by
  unfold roomE roomD roomC
  simp only [Bool.and_assoc]
  rfl
theorem erase_builtin (b : Builtin) (ts : List TypeId) (xs : List Operand) : (builtinH P o b ts xs).erase call = builtinE P o b ts xs := by
  unfold builtinH
  split
  · rename_i t u x y
    simp only [builtinE, erase_if]
    cases Nat.beq t u with
    | false => rfl
    | true =>
      simp only [if_true]
      cases elemT P t with
      | none => rfl
      | some e =>
        simp only [appendH, erase_bind, erase_toH]
        refine bind_congr fun a => bind_congr fun m => ?_
        cases m with
        | sl sz m =>
          simp only []
          cases a with
          | sl k l =>
            cases l with
            | nil =>
              cases x <;> first | rfl | (simp only [erase_if, erase_need, erase_toH, room_eq]; cases roomC P e sz <;> cases roomD P e 0 m.length <;> rfl)
            | cons _ _ => rfl
          | ref p ver =>
            simp only [erase_bind, erase_toH]
            refine bind_congr fun ⟨own, e', l⟩ => ?_
            simp only [erase_if, erase_need, erase_toH, room_eq]
            cases Nat.beq e e' <;> cases roomC P e sz <;> cases roomD P e l.length m.length <;> rfl
          | _ => rfl
        | _ => rfl
  all_goals first
    | exact erase_toH _ _
    | (simp only [builtinE, erase_if]
       cases Nat.beq ts.length xs.length with
       | false => rfl
       | true =>
         simp only [if_true, erase_bind, erase_toH]
         refine bind_congr fun vs => ?_
         cases vs.mapM scOf with
         | none => rfl
         | some cs =>
           simp only []
           generalize pureOf P _ = y
           cases y with
           | none => rfl
           | some y =>
             cases y with
             | value v =>
               show QH.erase call (if isSc v = true then (one o.dst (.sc v)).toH else .fail) = _
               simp only [erase_if, erase_toH]
               rfl
             | _ => rfl)
theorem erase_call {c : Call} {g : FuncId} {cs : List AV} : (callH P fh o c g cs).erase call = callE P fh call o c g cs := by
  unfold callH callE
  simp only [erase_bind, erase_toH]
  refine bind_congr fun ⟨vs, ws⟩ => ?_
  simp only [erase_if]
  cases (Nat.ble ws.length 1 && ws.all leavesHere && Nat.beq c.argTypes.size c.args.size && Nat.blt g 1000000) with
  | false => rfl
  | true =>
    simp only [if_true]
    have hh : ∀ H, (QH.res g (vs ++ cs) H fun r H' => (one o.dst r (ws ++ [W.heap H'])).toH).erase call = (match call g (vs ++ cs) H with | some (r, H') => one o.dst r (ws ++ [W.heap H']) | none => Q.fail) := fun H => by
      rw [erase_res]
      simp only [erase_toH]
    have hp : (QH.res g vs [] fun r H' => (match H' with | [] => (one o.dst r ws).toH | _ => QH.fail)).erase call = (match call g vs [] with | some (r, []) => one o.dst r ws | _ => Q.fail) := by
      rw [erase_res]
      cases call g vs [] with
      | none => rfl
      | some x =>
        obtain ⟨r, H'⟩ := x
        cases H' with
        | nil => exact erase_toH _ _
        | cons _ _ => rfl
    cases cs.isEmpty with
    | false =>
      simp only [Bool.false_eq_true, if_false, Bool.false_and]
      show Q.heap (fun H _ => QH.erase call _) = _
      congr 1
      funext H _
      exact hh H
    | true =>
      simp only [if_true, Bool.true_and]
      show QH.erase call (if npL vs = true then _ else _) = _
      cases npL vs with
      | true => exact hp
      | false =>
        simp only [Bool.false_eq_true, if_false]
        show Q.heap (fun H _ => QH.erase call _) = _
        congr 1
        funext H _
        exact hh H
theorem erase_sort {c : Call} {g : FuncId} : (sortH P o c g).erase call = sortE P call o c g := by
  unfold sortH sortE
  generalize c.argTypes.toList = ts
  generalize c.args.toList = xs
  match ts, xs with
  | [t, u], [x, y] =>
    simp only []
    rw [erase_if]
    split
    · simp only [erase_bind, erase_toH]
      refine bind_congr fun a => bind_congr fun k => ?_
      cases a with
      | ref p ver =>
        cases p with
        | slot m =>
          cases k with
          | fn k ks =>
            cases ks with
            | nil =>
              simp only [erase_bind, erase_toH]
              refine bind_congr fun ⟨own, e, l⟩ => ?_
              simp only [erase_if]
              cases own with
              | false => rfl
              | true =>
                simp only [if_true, erase_res]
                cases call (sortId g) [.cap true e l, .fn k []] [] with
                | none => rfl
                | some p =>
                  obtain ⟨r, H'⟩ := p
                  cases r with
                  | cap ow e' l' =>
                    cases ow with
                    | true =>
                      cases H' with
                      | nil =>
                        simp only [erase_if, erase_toH]
                        cases Nat.beq e e' <;> rfl
                      | cons _ _ => rfl
                    | false => rfl
                  | _ => rfl
            | cons _ _ => rfl
          | _ => rfl
        | _ => rfl
      | _ => rfl
    · rfl
  | [], _ => rfl
  | [_], _ => rfl
  | _ :: _ :: _ :: _, _ => rfl
  | [_, _], [] => rfl
  | [_, _], [_] => rfl
  | [_, _], _ :: _ :: _ :: _ => rfl
theorem erase_value {c : Call} {g : FuncId} {cs : List AV} : (valueH P fh o c g cs).erase call = valueE P fh call o c g cs := by
  unfold valueH valueE
  rw [erase_if]
  split
  · exact erase_sort
  · exact erase_call
theorem erase_make (t : TypeId) (v w : AV) : (idxH v fun i => idxH w fun j => makeH P o t i j).erase call = makeE P o t v w := by
  unfold makeE
  rw [erase_idx]
  cases idxOf v with
  | none => rfl
  | some i =>
    simp only []
    rw [erase_idx]
    cases idxOf w with
    | none => rfl
    | some j =>
      simp only [makeH]
      cases elemT P t with
      | none => rfl
      | some e =>
        simp only []
        cases zeroT P e with
        | none => rfl
        | some z =>
          simp only [erase_if, erase_need, erase_toH]
          cases (Nat.ble 1 (sizeT P e) && Nat.beq z.length (sizeT P e)) <;> cases (Nat.beq i j && Nat.ble (i * bytesU P e) 140737488355328 && Nat.ble i 4611686018427387904) <;> rfl
theorem erase_eff : (effH P fh f o).erase call = eff P fh f call o := by
  unfold effH
  cases ho : o.op with
  | makeSlice t x y =>
    simp only [eff, ho, erase_bind, erase_toH]
    refine bind_congr fun v => bind_congr fun w => ?_
    exact erase_make t v w
  | pick c x y =>
    simp only [eff, ho, erase_bind, erase_toH]
    refine bind_congr fun c => bind_congr fun x => bind_congr fun y => ?_
    cases c with
    | sc v =>
      cases v with
      | bool t => simp only [QH.erase, erase_toH]
      | _ => rfl
    | _ => rfl
  | load t x =>
    simp only [eff, ho, erase_bind, erase_toH]
    refine bind_congr fun v => ?_
    cases v with
    | eaddr p ver sz i off =>
      simp only [erase_bind, erase_toH]
      refine bind_congr fun ⟨own, e, l⟩ => ?_
      simp only [erase_getO]
      cases l[i]? with
      | none => rfl
      | some w =>
        simp only [Option.bind_some]
        cases cellsOf w with
        | none => rfl
        | some c =>
          simp only [erase_if, erase_bind, erase_toH]
          cases Nat.beq sz (sizeT P e) <;> rfl
    | lptr m ver off =>
      simp only [QH.erase]
      congr 1
      funext b ver'
      rw [erase_if]
      cases Nat.beq ver ver' with
      | false => rfl
      | true =>
        simp only [if_true]
        cases b <;> first | rfl | simp only [erase_bind, erase_toH]
    | ptr b off =>
      simp only [QH.erase]
      congr 1
      funext H hv
      cases H[b]? with
      | none => rfl
      | some l => simp only [erase_bind, erase_toH]
    | ea l => simp only [erase_bind, erase_toH]
    | _ => rfl
  | store t x y =>
    simp only [eff, ho, erase_bind, erase_toH]
    refine bind_congr fun v => bind_congr fun y => bind_congr fun ⟨z, ws⟩ => ?_
    have key : ∀ cc : Option (List AV), (match cc with
        | some c => if Nat.beq c.length (sizeT P t) && Nat.ble 1 c.length then storeH P v ws c else .fail
        | none => .fail : QH (List W)).erase call = match cc with
        | some c => if Nat.beq c.length (sizeT P t) && Nat.ble 1 c.length then storeE P v ws c else .fail
        | none => .fail := fun cc => by
      cases cc with
      | none => rfl
      | some c =>
        simp only []
        rw [erase_if]
        cases (Nat.beq c.length (sizeT P t) && Nat.ble 1 c.length) with
        | false => rfl
        | true =>
          simp only [if_true]
          unfold storeH
          split
          · rename_i m ver sz i off
            simp only [storeE, erase_bind, erase_toH]
            refine bind_congr fun ⟨own, e, l⟩ => ?_
            simp only [erase_if]
            cases own with
            | false => rfl
            | true =>
              simp only [if_true, erase_getO]
              cases l[i]? with
              | none => rfl
              | some w =>
                simp only []
                cases cellsOf w with
                | none => rfl
                | some cw =>
                  simp only [erase_if]
                  cases (Nat.beq sz (sizeT P e) && Nat.ble (off + c.length) cw.length && c.all leaf) with
                  | false => rfl
                  | true =>
                    simp only [if_true]
                    cases ofCells (match w with | .agg _ => true | _ => false) (splice cw off c) <;> rfl
          · exact erase_toH _ _
    exact key _
  | index t x i =>
    simp only [eff, ho, erase_bind, erase_toH]
    refine bind_congr fun v => bind_congr fun w => ?_
    rw [erase_idx]
    cases idxOf w with
    | none =>
      cases v with
      | sc c => cases c <;> rfl
      | _ => rfl
    | some i =>
      simp only []
      cases v with
      | agg l =>
        cases hu : P.underlying t with
        | none => rfl
        | some u =>
          cases u with
          | array m e =>
            simp only [erase_if, erase_need, erase_bind, erase_loadF, erase_toH]
            cases Nat.ble 1 (sizeT P e) <;> cases Nat.blt i m <;> rfl
          | _ => rfl
      | sc c =>
        cases c with
        | string str =>
          cases hu : P.underlying t with
          | none => rfl
          | some u =>
            cases u with
            | string =>
              simp only [erase_val]
              cases str[i]? with
              | none => rfl
              | some b => exact erase_toH _ _
            | _ => rfl
        | _ => rfl
      | _ => rfl
  | indexAddr t x i =>
    simp only [eff, ho, erase_bind, erase_toH]
    refine bind_congr fun v => bind_congr fun w => ?_
    rw [erase_idx]
    cases idxOf w with
    | none => rfl
    | some i =>
      simp only []
      cases hu : P.underlying t with
      | none => rfl
      | some u =>
        cases u with
        | slice e =>
          simp only []
          cases v with
          | sl sz l =>
            simp only [erase_if, erase_getO]
            cases (Nat.beq sz (sizeT P e) && Nat.ble 1 sz) with
            | false => rfl
            | true =>
              simp only [if_true]
              cases l[i]? with
              | none => rfl
              | some w =>
                simp only [Option.bind_some]
                cases cellsOf w with
                | none => rfl
                | some c => exact erase_toH _ _
          | ref p ver =>
            simp only [erase_bind, erase_toH]
            refine bind_congr fun ⟨own, e', l⟩ => ?_
            simp only [erase_if, erase_need, erase_toH]
            cases Nat.beq e e' <;> cases Nat.ble 1 (sizeT P e) <;> cases Nat.blt i l.length <;> rfl
          | hsl b off sz len cp =>
            simp only [erase_if, erase_need, erase_toH]
            cases Nat.beq sz (sizeT P e) <;> cases Nat.ble 1 (sizeT P e) <;> cases Nat.blt i len <;> rfl
          | _ => rfl
        | array m e =>
          simp only [erase_if, erase_need, erase_bind, erase_toH]
          cases Nat.ble 1 (sizeT P e) <;> cases Nat.blt i m <;> rfl
        | _ => rfl
  | slice t x lo hi mx =>
    cases mx with
    | some _ => simp only [erase_toH, eff, ho]
    | none =>
      simp only [eff, ho, erase_bind, erase_toH]
      refine bind_congr fun v => ?_
      rw [erase_optIdx]
      refine bind_congr fun lo => ?_
      rw [erase_optIdx]
      refine bind_congr fun hi => ?_
      cases v with
      | sc c =>
        cases c with
        | string str =>
          cases hu : P.underlying t with
          | none => rfl
          | some u =>
            cases u with
            | string => simp only [erase_need, erase_toH]
            | _ => rfl
        | _ => rfl
      | sl sz l =>
        cases hu : P.underlying t with
        | none => rfl
        | some u =>
          cases u with
          | slice e =>
            simp only [erase_if, erase_need, erase_toH]
            cases Nat.beq sz (sizeT P e) <;> cases Nat.ble 1 (sizeT P e) <;> cases Nat.ble (lo.getD 0) (hi.getD l.length) <;> cases Nat.ble (hi.getD l.length) l.length <;> rfl
          | _ => rfl
      | ref p ver =>
        cases hu : P.underlying t with
        | none => rfl
        | some u =>
          cases u with
          | slice e =>
            simp only [erase_bind, erase_toH]
            refine bind_congr fun ⟨own, e', l⟩ => ?_
            simp only [erase_if, erase_need]
            cases Nat.beq e e' <;> cases Nat.ble 1 (sizeT P e) <;> cases Nat.ble (lo.getD 0) (hi.getD l.length) <;> cases Nat.ble (hi.getD l.length) l.length <;> cases own <;> cases lo <;> first | rfl | exact erase_toH _ _
          | _ => rfl
      | hsl b off sz len cap =>
        cases hu : P.underlying t with
        | none => rfl
        | some u =>
          cases u with
          | slice e =>
            simp only [erase_if, erase_need, erase_toH]
            cases Nat.beq sz (sizeT P e) <;> cases Nat.ble len cap <;> cases Nat.ble 1 (sizeT P e) <;> cases Nat.ble (lo.getD 0) (hi.getD len) <;> cases Nat.ble (hi.getD len) len <;> rfl
          | _ => rfl
      | _ => rfl
  | binOp op t x y t' =>
    simp only [eff, ho, erase_bind, erase_toH]
    refine bind_congr fun a => bind_congr fun b => ?_
    cases scOf a with
    | none => rfl
    | some a =>
      cases scOf b with
      | none => rfl
      | some b => exact erase_sem _
  | unOp op t x =>
    simp only [eff, ho, erase_bind, erase_toH]
    refine bind_congr fun a => ?_
    cases a <;> first | exact erase_sem _ | rfl
  | convert t u x =>
    simp only [eff, ho]
    split
    · simp only [erase_bind, erase_toH]
      refine bind_congr fun a => ?_
      exact erase_same _ _
    · simp only [erase_bind, erase_toH]
      refine bind_congr fun a => ?_
      exact erase_conv _ _ _ _
  | call c =>
    simp only [eff, ho]
    cases hc : c.callee with
    | builtin b => exact erase_builtin _ _ _
    | value g =>
      simp only [erase_bind, erase_toH]
      refine bind_congr fun g => ?_
      cases g <;> first | (simp only [erase_bind, erase_value]; rfl) | rfl
    | invoke _ _ => rfl
  | makeFunc x y z => cases x <;> (rw [erase_toH]; simp only [eff, ho])
  | _ => simp only [erase_toH, eff, ho]
end
end Go.Vai
