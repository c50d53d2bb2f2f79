/- A part of the engine that walks a function of the given program: sound rules, no statement of its own. -/
import Derived.Test.YtdcbbmnihcfdlaaEng4
set_option linter.unusedVariables false
set_option linter.unusedSimpArgs false
set_option linter.unnecessarySimpa false
set_option linter.constructorNameAsVariable false
set_option linter.all false
set_option linter.unusedVariables false
set_option linter.unusedSimpArgs false
namespace Go.Eng

/-- A field: its offset, its type (one of some size). -/
def fd (P : Program) (s : TypeId) (f : Nat) : Option (Nat × TypeId) :=
  match P.underlying s with
  | some (.struct fs) => match fs[f]? with
    | some x => if szOf P x.type = 0 then none else some (x.offset, x.type)
    | none => none
  | _ => none
/-- The zero value. -/
def zsv (P : Program) (t : TypeId) : Option SV :=
  match (P.info? t).bind (·.zero) with
  | some (.agg cs) => some (.agg (cs.toList.map .v))
  | some v => some (.v v)
  | none => none

def intOf? : SV → Option Int
  | .v (.int _ n) => some n
  | _ => none
/-- A bound of a slice expression. -/
def bound (T : Tab) (dflt : Int) : Option Operand → Option Int
  | none => some dflt
  | some x => intOf? (ev T x)

def vfieldAddr (P : Program) (s : TypeId) (x : SV) (f : Nat) (k : SV → Prop) : Prop :=
  match fd P s f with
  | none => False
  | some (off, _) => match x with
    | .ptr id o => k (.ptr id (o + off))
    | .eptr cells => k (.eptr (cells.drop off))
    | .rptr id sz i j => k (.rptr id sz i (j + off))
    | _ => False
def vindexAddr (P : Program) (O : Heap) (t : TypeId) (x i : SV) (k : SV → Prop) : Prop :=
  match intOf? i with
  | none => False
  | some n => match tk P t with
    | .sl e sz => match x with
      | .rd sz' rows => sz = sz' ∧ 0 ≤ n ∧ ∃ r, rows[n.toNat]? = some r ∧ k (.eptr r)
      | .own id => match find O id with
        | some (.row _ sz' rows) => sz = sz' ∧ (0 ≤ n ∧ n < (rows.length : Int)) ∧ k (.rptr id sz n.toNat 0)
        | _ => False
      | _ => False
    | .arr m e sz => match x with
      | .ptr id off => (0 ≤ n ∧ n < (m : Int)) ∧ k (.ptr id (off + n.toNat * sz))
      | .eptr cells => (0 ≤ n ∧ n < (m : Int)) ∧ k (.eptr (cells.drop (n.toNat * sz)))
      | .rptr id z i j => (0 ≤ n ∧ n < (m : Int)) ∧ k (.rptr id z i (j + n.toNat * sz))
      | _ => False
    | _ => False
/-- A part of a value of several cells. -/
def vpart (P : Program) (t : TypeId) (cells : List SV) (off : Nat) (k : SV → Prop) : Prop :=
  match tk P t with
  | .st n => off + n ≤ cells.length ∧ k (.agg ((cells.drop off).take n))
  | .arr n _ z => n * z = szOf P t ∧ off + n * z ≤ cells.length ∧ k (.agg ((cells.drop off).take (n * z)))
  | x => x.one = true ∧ match cells[off]? with | some s => k s | none => False
def vindex (P : Program) (t : TypeId) (x i : SV) (k : SV → Prop) : Prop :=
  match intOf? i with
  | none => False
  | some n => match tk P t with
    | .str => match x with
      | .v (.string s) => (0 ≤ n ∧ n < (s.size : Int)) ∧ k (.v (.int .u8 ((s.data.toList.getD n.toNat 0).toNat : Int)))
      | _ => False
    | .arr m e sz => match x with
      | .agg cells => (0 ≤ n ∧ n < (m : Int)) ∧ vpart P e cells (n.toNat * sz) k
      | _ => False
    | _ => False
def vassert (P : Program) (x : SV) (at_ : TypeId) (ok : Bool) (k : SV → Prop) : Prop :=
  (match tk P at_ with | .ifc | .other => false | _ => true) = true ∧
  match x with
  | .ifc t s => if t = at_ then k (if ok then .tup [s, .v (.bool true)] else s) else ok = true ∧ (match zsv P at_ with | some z => k (.tup [z, .v (.bool false)]) | none => False)
  | .v .nilIface => ok = true ∧ (match zsv P at_ with | some z => k (.tup [z, .v (.bool false)]) | none => False)
  | _ => False
def vlen (P : Program) (O : Heap) (t : TypeId) (x : SV) (k : SV → Prop) : Prop :=
  match tk P t with
  | .sl _ _ => match x with
    | .rd _ rows => k (.v (.int .i64 rows.length))
    | .v (.slice _ n _) => k (.v (.int .i64 n))
    | .sub _ _ l h _ => k (.v (.int .i64 ((h - l : Nat) : Int)))
    | .own id => match find O id with
      | some (.row _ _ rows) => k (.v (.int .i64 rows.length))
      | _ => False
    | _ => False
  | .str => match x with
    | .v (.string s) => k (.v (.int .i64 s.size))
    | _ => False
  | .mp _ _ => match x with
    | .own id => match find O id with
      | some (.mp es) => k (.v (.int .i64 es.length))
      | _ => False
    | .v (.map none) => k (.v (.int .i64 0))
    | _ => False
  | .arr n _ _ => k (.v (.int .i64 n))
  | _ => False
def vun (op : UnOp) (x : SV) (k : SV → Prop) : Prop :=
  match op, x with
  | .not, .v (.bool b) => k (.v (.bool (!b)))
  | .neg, .v (.int i n) => (lo i ≤ -n ∧ -n ≤ hi i) ∧ k (.v (.int i (-n)))
  | .xor, .v (.int i n) => k (.v (.int i (bits .xor i (if i.signed then -1 else i.max) n)))
  | _, _ => False
def vconv (P : Program) (s d : TypeId) (x : SV) (k : SV → Prop) : Prop :=
  (match tk P s with | .other => false | _ => true) = true ∧
  match tk P d, x with
  | .int kd, .v (.int _ n) => k (.v (.int kd (kd.wrap n)))
  | .str, .v (.string z) => tk P s = .str ∧ k (.v (.string z))
  | _, _ => False
def vslice (P : Program) (O : Heap) (T : Tab) (t : TypeId) (x : SV) (lo_ hi_ mx : Option Operand) (k : SV → Prop) : Prop :=
  match tk P t with
  | .str => match x with
    | .v (.string s) => mx = none ∧ (match bound T 0 lo_, bound T s.size hi_ with
      | some l, some h => (0 ≤ l ∧ l ≤ h ∧ h ≤ (s.size : Int)) ∧ k (.v (.string (s.extract l.toNat h.toNat)))
      | _, _ => False)
    | _ => False
  | .sl e sz => match x with
    | .rd sz' rows => sz = sz' ∧ (match bound T 0 lo_, bound T rows.length hi_ with
      | some l, some h => (0 ≤ l ∧ l ≤ h ∧ h ≤ (rows.length : Int)) ∧ (match mx with | none => True | some m => hi_ ≠ none ∧ ∃ q, intOf? (ev T m) = some q ∧ h ≤ q ∧ q ≤ (rows.length : Int)) ∧ k (.rd sz ((rows.take h.toNat).drop l.toNat))
      | _, _ => False)
    | .own id => match find O id with
      | some (.row _ sz' rows) => sz = sz' ∧ (match bound T 0 lo_, bound T rows.length hi_ with
        | some l, some h => (0 ≤ l ∧ l ≤ h ∧ h ≤ (rows.length : Int)) ∧ (match mx with | none => k (.sub id sz l.toNat h.toNat false) | some m => hi_ ≠ none ∧ intOf? (ev T m) = some h ∧ k (.sub id sz l.toNat h.toNat true))
        | _, _ => False)
      | _ => False
    | _ => False
  | _ => False

def vq (P : Program) (T : Tab) (O : Heap) (op : Op) (k : SV → Prop) : Prop :=
  match op with
  | .move x => k (ev T x)
  | .assign x => k (ev T x)
  | .pick c a b => match ev T c with
    | .v (.bool true) => k (ev T a)
    | .v (.bool false) => k (ev T b)
    | _ => False
  | .load t a => vload P O t (ev T a) k
  | .nilCheck x => match ev T x with
    | .ptr id o => k (.ptr id o)
    | .eptr l => k (.eptr l)
    | .rptr a b c d => k (.rptr a b c d)
    | .fn f caps => k (.fn f caps)
    | _ => False
  | .binOp b t x y _ => vbin P b t (ev T x) (ev T y) k
  | .unOp u _ x => vun u (ev T x) k
  | .convert s d x => vconv P s d (ev T x) k
  | .makeInterface t x => (match tk P t with | .ifc | .other => false | _ => true) = true ∧ k (.ifc t (ev T x))
  | .makeFunc (.func f) first caps => first = #[] ∧ k (.fn f (caps.toList.map (ev T)))
  | .slice t x l h m => vslice P O T t (ev T x) l h m k
  | .fieldAddr s x f => vfieldAddr P s (ev T x) f k
  | .field t x f => match fd P t f, ev T x with
    | some (off, ft), .agg cells => vpart P ft cells off k
    | _, _ => False
  | .indexAddr t x i => vindexAddr P O t (ev T x) (ev T i) k
  | .index t x i => vindex P t (ev T x) (ev T i) k
  | .typeAssert x _ a ok => vassert P (ev T x) a ok k
  | .extract x i => match ev T x with
    | .tup l => match l[i]? with | some s => k s | none => False
    | _ => False
  | .call cl => match cl.callee, cl.args.toList, cl.argTypes.toList with
    | .builtin .len, [x], [t] => vlen P O t (ev T x) k
    | .builtin .max, [x, y], _ => match ev T x, ev T y with
      | .v (.int i a), .v (.int j b) => k (.v (.int i (max a b)))
      | _, _ => False
    | .builtin .min, [x, y], _ => match ev T x, ev T y with
      | .v (.int i a), .v (.int j b) => k (.v (.int i (min a b)))
      | _, _ => False
    | _, _, _ => False
  | _ => False

end Go.Eng
