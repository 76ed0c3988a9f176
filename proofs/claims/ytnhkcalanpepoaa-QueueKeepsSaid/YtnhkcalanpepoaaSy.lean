/- The evaluation as a machine without functions in it: what simp is told to evaluate with. Own work. -/
import Derived.Test.YtnhkcalanpepoaaSga
namespace Go.Shade
open Go

/-- A step that the kernel is told, not left to find. -/
theorem nd {α : Sort _} {a b : α} (h : a = b) : a = b := h

/-! ### Quiet operations, of values -/
def pickE (c a b : AV) : Option AV := match c with
  | .p (.s (.bool t)) => some (if t then a else b)
  | _ => none
def binE (op : BinOp) (a b : AV) : Option AV := match a, b with
  | .p (.s v), .p (.s u) => (abin op v u).map fun v => .p (.s v)
  | _, _ => none
def beqE (neg : Bool) (a b : AV) : Option AV := match a, b with
  | .p (.s (.bool a)), .p (.s (.bool b)) => some (.bool (if neg then !(a == b) else a == b))
  | _, _ => none
def unE (op : UnOp) (a : AV) : Option AV := match a with
  | .p (.s v) => (aun op v).map fun v => .p (.s v)
  | _ => none
def toIntE (k : IntKind) (a : AV) : Option AV := match a with
  | .p (.s (.int _ n)) => some (.int k (k.wrap n))
  | _ => none
def toStrE (a : AV) : Option AV := (a.asSl 1).bind fun xs => (asBytes xs).map fun bs => .p (.s (.string ⟨bs.toArray⟩))
def strIdE (a : AV) : Option AV := match a with
  | .p (.s (.string s)) => some (.p (.s (.string s)))
  | _ => none
def buildE (zero : List PV) (parts : List (Nat × Nat × AV)) : Option AV :=
  if parts.all fun q => q.2.2.celled && q.2.2.cells.length == q.2.1 && decide (q.1 + q.2.1 ≤ zero.length) then
    some (.agg (fillA (zero.map AV.p) (parts.map fun q => (q.1, q.2.2.cells)))) else none
def fieldE (g : Bool) (off n : Nat) (a : AV) : Option AV := match a with
  | .agg cs => subA g cs off n
  | _ => none
def indexE (g : Bool) (len sz : Nat) (a i : AV) : Option AV := match a, i.asInt with
  | .agg cs, some i => if 0 ≤ i ∧ i < len then subA g cs (i.toNat * sz) sz else none
  | _, _ => none
def sindexE (a i : AV) : Option AV := match a, i.asInt with
  | .p (.s (.string s)), some i => if 0 ≤ i ∧ i < s.size then some (.int .u8 ((s.data.toList.getD i.toNat 0).toNat)) else none
  | _, _ => none
def extractE (i : Nat) (a : AV) : Option AV := match a with
  | .tup l => l[i]?
  | _ => none
def lenE (a : AV) : Option AV := a.lenOf.map fun (n : Nat) => .int .i64 n
def slenE (a : AV) : Option AV := match a with
  | .p (.s (.string s)) => some (.int .i64 s.size)
  | _ => none
def minmaxE (mx : Bool) (a b : AV) : Option AV := match a, b with
  | .p (.s (.int k a)), .p (.s (.int _ b)) => some (.int k (if mx then (if b > a then b else a) else (if b < a then b else a)))
  | _, _ => none
def sliceE (sz : Nat) (a : AV) (lo hi : Option AV) : Option AV := match bslO sz a (intO lo) (intO hi) with
  | some r => some r
  | none => (a.asSl sz).bind fun xs => (intO lo).bind fun lo => (intO hi).bind fun hi' => (bounds xs.length lo hi').bind fun lh =>
    match a, hi with
    | .own t _ _, none => some (.own t sz ((xs.take lh.2).drop lh.1))
    | _, _ => some (.p (.sl sz ((xs.take lh.2).drop lh.1)))
def faddrE (off : Nat) (a : AV) : Option AV := match a with
  | .ptr b o => some (.ptr b (o + off))
  | .cptr cs => some (.cptr (cs.drop off))
  | _ => none
def iaddrSE (sz : Nat) (a i : AV) : Option AV := match bslA sz a i.asInt with
  | some r => some r
  | none => match a.asSl sz, i.asInt with
    | some xs, some i => if 0 ≤ i ∧ i < xs.length then some (.cptr (xs.getD i.toNat [])) else none
    | _, _ => none
def iaddrAE (sz len : Nat) (a i : AV) : Option AV := match a, i.asInt with
  | .ptr b o, some i => if 0 ≤ i ∧ i < len then some (.ptr b (o + i.toNat * sz)) else none
  | .cptr cs, some i => if 0 ≤ i ∧ i < len then some (.cptr (cs.drop (i.toNat * sz))) else none
  | _, _ => none
def mkifE (t : TypeId) (a : AV) : Option AV := match a with
  | .p (.s v) => some (.p (.s (.iface t v)))
  | .agg [] => some (.p (.s (.iface t (.agg #[]))))
  | _ => none
def nilchkE (a : AV) : Option AV := match a with
  | .ptr b o => some (.ptr b o)
  | .cptr cs => some (.cptr cs)
  | .fn (.func f) first cap => some (.fn (.func f) first cap)
  | _ => none
def arrptrE (n : Nat) (a : AV) : Option AV := match a with
  | .p (.sl _ xs) => if n ≤ xs.length ∧ 0 < xs.flatten.length then some (.cptr xs.flatten) else none
  | .own _ _ xs => if n ≤ xs.length ∧ 0 < xs.flatten.length then some (.cptr xs.flatten) else none
  | _ => none

/-! ### The machine: code, what stands behind it, slots, memory -/
inductive Fr where
  | seq (c : CC)
  | blk (id : Nat)

section
variable (P : Program) (Γ : Globs) (N : Nat) (R : RD) (Q : QE)

def QF : List Fr → QE
  | [] => Q
  | .seq c :: fs => thenE (fun L M => wlE P Γ N R c (QF fs) L M) (QF fs)
  | .blk id :: fs => blockE id (QF fs)
def exS (e : EX) (fs : List Fr) (L : EL) (M : ML) : Prop := QF P Γ N R Q fs e L M
def codeS (c : CC) (fs : List Fr) (L : EL) (M : ML) : Prop := wlE P Γ N R c (QF P Γ N R Q fs) L M
def opsS (l : List CO) (fs : List Fr) (L : EL) (M : ML) : Prop := runE P Γ (fun v L M => QF P Γ N R Q fs (.pan v) L M) l L M (fun L M => QF P Γ N R Q fs .normal L M)
def opS (o : CO) (l : List CO) (fs : List Fr) (L : EL) (M : ML) : Prop := stepE P Γ (fun v L M => QF P Γ N R Q fs (.pan v) L M) o L M (fun L M => opsS P Γ N R Q l fs L M)
def resS (r : Option AV) (d : Option Nat) (l : List CO) (fs : List Fr) (L : EL) (M : ML) : Prop := bindO r fun r => opsS P Γ N R Q l fs (putL L d r) M
def resM (r : Option (AV × ML)) (d : Option Nat) (l : List CO) (fs : List Fr) (L : EL) : Prop := bindO r fun r => opsS P Γ N R Q l fs (putL L d r.1) r.2
def stoS (r : Option ML) (d : Option Nat) (l : List CO) (fs : List Fr) (L : EL) : Prop := bindO r fun M => opsS P Γ N R Q l fs (putL L d .junk) M
def calS (fv : AV) (as : List AV) (d : Option Nat) (l : List CO) (fs : List Fr) (L : EL) (M : ML) : Prop :=
  callE P Γ (fun v L M => QF P Γ N R Q fs (.pan v) L M) fv as d L M (fun L M => opsS P Γ N R Q l fs L M)
def panS (x : AV) (fs : List Fr) (L : EL) (M : ML) : Prop := panE (fun v L M => QF P Γ N R Q fs (.pan v) L M) x L M
def gatS (v : AV) (b : Bool) (o : CO) (l : List CO) (fs : List Fr) (L : EL) (M : ML) : Prop := gateE v b (opS P Γ N R Q o l fs L M) (opsS P Γ N R Q l fs (putL L o.dst undA) M)
def conS (v : AV) (a b : CC) (fs : List Fr) (L : EL) (M : ML) : Prop := condE v (codeS P Γ N R Q a fs L M) (codeS P Γ N R Q b fs L M)
def looS (c : CC) (fs : List Fr) (L : EL) (M : ML) : Prop := loopE P Γ N R c (QF P Γ N R Q fs) L M

/-- A drawn region's data: its operations, what each waits for, what was touched so far. -/
structure Dr where
  l0 : List CO
  bef : List (List Nat)
def opsT (D : Dr) (tr : List (List Nat × List Nat)) (l : List CO) (fs : List Fr) (L : EL) (M : ML) : Prop := runTE P Γ l L M tr (fun L M tr => indepP D.l0 D.bef tr ∧ QF P Γ N R Q fs .normal L M)
def opT (D : Dr) (tr : List (List Nat × List Nat)) (o : CO) (l : List CO) (fs : List Fr) (L : EL) (M : ML) : Prop := stepTE P Γ o L M (fun L M f => opsT P Γ N R Q D (f :: tr) l fs L M)
def resT (D : Dr) (tr : List (List Nat × List Nat)) (f : List Nat × List Nat) (r : Option AV) (d : Option Nat) (l : List CO) (fs : List Fr) (L : EL) (M : ML) : Prop := bindO r fun r => opsT P Γ N R Q D (f :: tr) l fs (putL L d r) M
def resTM (D : Dr) (tr : List (List Nat × List Nat)) (f : List Nat × List Nat) (r : Option (AV × ML)) (d : Option Nat) (l : List CO) (fs : List Fr) (L : EL) : Prop := bindO r fun r => opsT P Γ N R Q D (f :: tr) l fs (putL L d r.1) r.2
def stoT (D : Dr) (tr : List (List Nat × List Nat)) (f : List Nat × List Nat) (r : Option ML) (d : Option Nat) (l : List CO) (fs : List Fr) (L : EL) : Prop := bindO r fun M => opsT P Γ N R Q D (f :: tr) l fs (putL L d .junk) M
def calT (D : Dr) (tr : List (List Nat × List Nat)) (fv : AV) (as : List AV) (d : Option Nat) (l : List CO) (fs : List Fr) (L : EL) (M : ML) : Prop :=
  callTE P Γ fv as d L M (fun L M f => opsT P Γ N R Q D (f :: tr) l fs L M)
def gatT (D : Dr) (tr : List (List Nat × List Nat)) (v : AV) (b : Bool) (o : CO) (l : List CO) (fs : List Fr) (L : EL) (M : ML) : Prop := gateE v b (opT P Γ N R Q D tr o l fs L M) (opsT P Γ N R Q D (([], []) :: tr) l fs (putL L o.dst undA) M)
end

section
variable {P : Program} {Γ : Globs} {N : Nat} {R : RD} {Q : QE} {L : EL} {M : ML} {fs : List Fr} {l : List CO} {D : Dr} {tr : List (List Nat × List Nat)} {d : Option Nat} {gd : Option (Nat × Bool)}

/-! Where simp looks first -/
@[congr] theorem resS_congr {r r' : Option AV} (h : r = r') : resS P Γ N R Q r d l fs L M = resS P Γ N R Q r' d l fs L M := by rw [h]
@[congr] theorem resM_congr {r r' : Option (AV × ML)} (h : r = r') : resM P Γ N R Q r d l fs L = resM P Γ N R Q r' d l fs L := by rw [h]
@[congr] theorem stoS_congr {r r' : Option ML} (h : r = r') : stoS P Γ N R Q r d l fs L = stoS P Γ N R Q r' d l fs L := by rw [h]
@[congr] theorem calS_congr {v v' : AV} {as as' : List AV} (h : v = v') (h' : as = as') : calS P Γ N R Q v as d l fs L M = calS P Γ N R Q v' as' d l fs L M := by rw [h, h']
@[congr] theorem panS_congr {v v' : AV} (h : v = v') : panS P Γ N R Q v fs L M = panS P Γ N R Q v' fs L M := by rw [h]
@[congr] theorem gatS_congr {v v' : AV} {b : Bool} {o : CO} (h : v = v') : gatS P Γ N R Q v b o l fs L M = gatS P Γ N R Q v' b o l fs L M := by rw [h]
@[congr] theorem conS_congr {v v' : AV} {a b : CC} (h : v = v') : conS P Γ N R Q v a b fs L M = conS P Γ N R Q v' a b fs L M := by rw [h]
@[congr] theorem resT_congr {f f' : List Nat × List Nat} {r r' : Option AV} (h : r = r') (h' : f = f') : resT P Γ N R Q D tr f r d l fs L M = resT P Γ N R Q D tr f' r' d l fs L M := by rw [h, h']
@[congr] theorem resTM_congr {f f' : List Nat × List Nat} {r r' : Option (AV × ML)} (h : r = r') (h' : f = f') : resTM P Γ N R Q D tr f r d l fs L = resTM P Γ N R Q D tr f' r' d l fs L := by rw [h, h']
@[congr] theorem stoT_congr {f f' : List Nat × List Nat} {r r' : Option ML} (h : r = r') (h' : f = f') : stoT P Γ N R Q D tr f r d l fs L = stoT P Γ N R Q D tr f' r' d l fs L := by rw [h, h']
@[congr] theorem calT_congr {v v' : AV} {as as' : List AV} (h : v = v') (h' : as = as') : calT P Γ N R Q D tr v as d l fs L M = calT P Γ N R Q D tr v' as' d l fs L M := by rw [h, h']
@[congr] theorem gatT_congr {v v' : AV} {b : Bool} {o : CO} (h : v = v') : gatT P Γ N R Q D tr v b o l fs L M = gatT P Γ N R Q D tr v' b o l fs L M := by rw [h]

/-! Slots and names -/
def sel (b : Bool) (a : AV) (L : EL) (i : Nat) : AV := match b with
  | true => a
  | false => look L i
def selM (b : Bool) (a : Res) (M : ML) (i : Nat) : Option Res := match b with
  | true => some a
  | false => memL M i
@[congr] theorem sel_congr {b b' : Bool} {a : AV} {i : Nat} (h : b = b') : sel b a L i = sel b' a L i := by rw [h]
@[congr] theorem selM_congr {b b' : Bool} {a : Res} {i : Nat} (h : b = b') : selM b a M i = selM b' a M i := by rw [h]
theorem sel_true (a : AV) (i : Nat) : sel true a L i = a := nd rfl
theorem sel_false (a : AV) (i : Nat) : sel false a L i = look L i := nd rfl
theorem selM_true (a : Res) (i : Nat) : selM true a M i = some a := nd rfl
theorem selM_false (a : Res) (i : Nat) : selM false a M i = memL M i := nd rfl
theorem look_cons (k : Nat) (a : AV) (i : Nat) : look ((k, a) :: L) i = sel (i == k) a L i := by
  simp only [look, sel]
  by_cases h : i = k
  · simp [h]
  · rw [if_neg h, beq_eq_false_iff_ne.2 h]
theorem look_put (k : Nat) (a : AV) (i : Nat) : look (putL L (some k) a) i = sel (i == k) a L i := look_cons k a i
theorem look_putn (a : AV) (i : Nat) : look (putL L none a) i = look L i := nd rfl
theorem look_nil (i : Nat) : look [] i = .junk := nd rfl
theorem look_arg (as : List AV) (i : Nat) : look (argE as) i = as.getD i .junk := look_argE as i
theorem memL_at (k : Nat) (a : Res) (i : Nat) : memL ((k, a) :: M) i = selM (i == k) a M i := by
  simp only [memL, selM]
  by_cases h : i = k
  · simp [h]
  · rw [if_neg h, beq_eq_false_iff_ne.2 h]
theorem memL_nil (i : Nat) : memL [] i = none := nd rfl
theorem ev_t (n : Nat) : X.ev Γ (look L) (.t n) = look L n := nd rfl
theorem ev_c (a : AV) {env : Nat → AV} : X.ev Γ env (.c a) = a := nd rfl

/-! Code -/
theorem c_skip : codeS P Γ N R Q .skip fs L M = exS P Γ N R Q .normal fs L M := nd rfl
theorem c_reg : codeS P Γ N R Q (.reg l) fs L M = opsS P Γ N R Q l fs L M := nd rfl
theorem c_regd (b : List (List Nat)) : codeS P Γ N R Q (.regd l b) fs L M = opsT P Γ N R Q ⟨l, b⟩ [] l fs L M := nd rfl
theorem c_seq (a b : CC) : codeS P Γ N R Q (.seq a b) fs L M = codeS P Γ N R Q a (.seq b :: fs) L M := nd rfl
theorem c_cond (x : X) (a b : CC) : codeS P Γ N R Q (.cond x a b) fs L M = conS P Γ N R Q (x.ev Γ (look L)) a b fs L M := nd rfl
theorem c_block (id : Nat) (c : CC) : codeS P Γ N R Q (.block id c) fs L M = codeS P Γ N R Q c (.blk id :: fs) L M := nd rfl
theorem c_loop (c : CC) : codeS P Γ N R Q (.loop c) fs L M = looS P Γ N R Q c fs L M := nd rfl
theorem c_exit (id : Nat) : codeS P Γ N R Q (.exit id) fs L M = exS P Γ N R Q (.exit id) fs L M := nd rfl
theorem c_ret : codeS P Γ N R Q .ret fs L M = exS P Γ N R Q .ret fs L M := nd rfl
def consO (i : Nat) (a : AV) : Option EL → Option EL
  | some l => some ((i, a) :: l)
  | none => none
def restO (L : EL) : List Nat → Option EL
  | [] => some []
  | i :: l => consO i (look L i) (restO L l)
theorem restO_eq (L : EL) : ∀ l, restO L l = some (restr L l)
  | [] => rfl
  | i :: l => by rw [restO, restO_eq L l]; rfl
def restS (P : Program) (Γ : Globs) (N : Nat) (R : RD) (Q : QE) (r : Option EL) (c : CC) (fs : List Fr) (M : ML) : Prop := match r with
  | some L => codeS P Γ N R Q c fs L M
  | none => False
@[congr] theorem restS_congr {r r' : Option EL} {c : CC} (h : r = r') : restS P Γ N R Q r c fs M = restS P Γ N R Q r' c fs M := by rw [h]
theorem c_rest (ls : List Nat) (c : CC) : codeS P Γ N R Q (.rest ls c) fs L M = restS P Γ N R Q (restO L ls) c fs M := by rw [restO_eq]; rfl
theorem restS_some (c : CC) : restS P Γ N R Q (some L) c fs M = codeS P Γ N R Q c fs L M := nd rfl
theorem restO_n : restO L [] = some [] := nd rfl
theorem restO_c (i : Nat) (l : List Nat) : restO L (i :: l) = consO i (look L i) (restO L l) := nd rfl
theorem consO_s (i : Nat) (a : AV) (l : EL) : consO i a (some l) = some ((i, a) :: l) := nd rfl
theorem x_normal (c : CC) : exS P Γ N R Q .normal (.seq c :: fs) L M = codeS P Γ N R Q c fs L M := nd rfl
theorem x_exit (i : Nat) (c : CC) : exS P Γ N R Q (.exit i) (.seq c :: fs) L M = exS P Γ N R Q (.exit i) fs L M := nd rfl
theorem x_ret (c : CC) : exS P Γ N R Q .ret (.seq c :: fs) L M = exS P Γ N R Q .ret fs L M := nd rfl
theorem x_pan (v : Value) (c : CC) : exS P Γ N R Q (.pan v) (.seq c :: fs) L M = exS P Γ N R Q (.pan v) fs L M := nd rfl
theorem b_normal (id : Nat) : exS P Γ N R Q .normal (.blk id :: fs) L M = exS P Γ N R Q .normal fs L M := nd rfl
theorem b_hit (i : Nat) : exS P Γ N R Q (.exit i) (.blk i :: fs) L M = exS P Γ N R Q .normal fs L M := by
  show (if i = i then _ else _) = _
  rw [if_pos rfl]
  rfl
theorem b_miss (i id : Nat) (h : (i == id) = false) : exS P Γ N R Q (.exit i) (.blk id :: fs) L M = exS P Γ N R Q (.exit i) fs L M := by
  show (if i = id then _ else _) = _
  rw [if_neg (by simpa using h)]
  rfl
theorem b_ret (id : Nat) : exS P Γ N R Q .ret (.blk id :: fs) L M = exS P Γ N R Q .ret fs L M := nd rfl
theorem b_pan (id : Nat) (v : Value) : exS P Γ N R Q (.pan v) (.blk id :: fs) L M = exS P Γ N R Q (.pan v) fs L M := nd rfl
def finS (r : Option (List AV)) (pre : ML) (e : AE) (post M : ML) : Prop := bindO r fun l => endE pre e post (oneE l) M
theorem f_normal {pre post : ML} {rs : List RV} {e : AE} : exS P Γ N R (finE pre rs e post) .normal [] L M = finS (rvsE L M rs) pre e post M := nd rfl
theorem f_ret {pre post : ML} {rs : List RV} {e : AE} : exS P Γ N R (finE pre rs e post) .ret [] L M = finS (rvsE L M rs) pre e post M := nd rfl
theorem fin_some {l : List AV} {pre post : ML} {e : AE} : finS (some l) pre e post M = endE pre e post (oneE l) M := by simp [finS, bindO]
theorem rvs_nil : rvsE L M [] = some [] := nd rfl
theorem rvs_cons (x : RV) (l : List RV) : rvsE L M (x :: l) = (rvE L M x).bind fun a => (rvsE L M l).bind fun as => some (a :: as) := nd rfl
theorem rv_tmp (k : Nat) : rvE L M (.tmp k) = some (look L k) := nd rfl
theorem rv_cell (k n : Nat) (g : Bool) : rvE L M (.cell k g n) = cellE g n M (look L k) := nd rfl
theorem o_nil : opsS P Γ N R Q [] fs L M = exS P Γ N R Q .normal fs L M := nd rfl
theorem o_cons (op : COp) : opsS P Γ N R Q (⟨d, op, none⟩ :: l) fs L M = opS P Γ N R Q ⟨d, op, none⟩ l fs L M := nd rfl
theorem o_gate (op : COp) (s : Nat) (b : Bool) : opsS P Γ N R Q (⟨d, op, some (s, b)⟩ :: l) fs L M = gatS P Γ N R Q (look L s) b ⟨d, op, some (s, b)⟩ l fs L M := nd rfl
theorem t_nil : opsT P Γ N R Q D tr [] fs L M = (indepP D.l0 D.bef tr ∧ exS P Γ N R Q .normal fs L M) := nd rfl
theorem t_cons (op : COp) : opsT P Γ N R Q D tr (⟨d, op, none⟩ :: l) fs L M = opT P Γ N R Q D tr ⟨d, op, none⟩ l fs L M := nd rfl
theorem t_gate (op : COp) (s : Nat) (b : Bool) : opsT P Γ N R Q D tr (⟨d, op, some (s, b)⟩ :: l) fs L M = gatT P Γ N R Q D tr (look L s) b ⟨d, op, some (s, b)⟩ l fs L M := nd rfl

/-! Results -/
theorem r_some (r : AV) : resS P Γ N R Q (some r) d l fs L M = opsS P Γ N R Q l fs (putL L d r) M := by simp [resS, bindO]
theorem rm_some (r : AV) : resM P Γ N R Q (some (r, M)) d l fs L = opsS P Γ N R Q l fs (putL L d r) M := by simp [resM, bindO]
theorem s_some : stoS P Γ N R Q (some M) d l fs L = opsS P Γ N R Q l fs (putL L d .junk) M := by simp [stoS, bindO]
theorem rt_some (f : List Nat × List Nat) (r : AV) : resT P Γ N R Q D tr f (some r) d l fs L M = opsT P Γ N R Q D (f :: tr) l fs (putL L d r) M := by simp [resT, bindO]
theorem rtm_some (f : List Nat × List Nat) (r : AV) : resTM P Γ N R Q D tr f (some (r, M)) d l fs L = opsT P Γ N R Q D (f :: tr) l fs (putL L d r) M := by simp [resTM, bindO]
theorem st_some (f : List Nat × List Nat) : stoT P Γ N R Q D tr f (some M) d l fs L = opsT P Γ N R Q D (f :: tr) l fs (putL L d .junk) M := by simp [stoT, bindO]
theorem bindO_if {α : Type} {c : Prop} [Decidable c] {o : Option α} {k : α → Prop} : bindO (if c then o else none) k = (c ∧ bindO o k) := by
  apply propext
  by_cases h : c <;> simp [bindO, h]
theorem r_if {c : Prop} [Decidable c] {r : Option AV} : resS P Γ N R Q (if c then r else none) d l fs L M = (c ∧ resS P Γ N R Q r d l fs L M) := bindO_if
theorem rm_if {c : Prop} [Decidable c] {r : Option (AV × ML)} : resM P Γ N R Q (if c then r else none) d l fs L = (c ∧ resM P Γ N R Q r d l fs L) := bindO_if
theorem s_if {c : Prop} [Decidable c] {r : Option ML} : stoS P Γ N R Q (if c then r else none) d l fs L = (c ∧ stoS P Γ N R Q r d l fs L) := bindO_if
theorem rt_if {f : List Nat × List Nat} {c : Prop} [Decidable c] {r : Option AV} : resT P Γ N R Q D tr f (if c then r else none) d l fs L M = (c ∧ resT P Γ N R Q D tr f r d l fs L M) := bindO_if
theorem rtm_if {f : List Nat × List Nat} {c : Prop} [Decidable c] {r : Option (AV × ML)} : resTM P Γ N R Q D tr f (if c then r else none) d l fs L = (c ∧ resTM P Γ N R Q D tr f r d l fs L) := bindO_if
theorem st_if {f : List Nat × List Nat} {c : Prop} [Decidable c] {r : Option ML} : stoT P Γ N R Q D tr f (if c then r else none) d l fs L = (c ∧ stoT P Γ N R Q D tr f r d l fs L) := bindO_if
theorem bind_if {α β : Type} {c : Prop} [Decidable c] {a : Option α} {f : α → Option β} : (if c then a else none).bind f = if c then a.bind f else none := by split <;> rfl
theorem map_if {α β : Type} {c : Prop} [Decidable c] {a : Option α} {f : α → β} : (if c then a else none).map f = if c then a.map f else none := by split <;> rfl
theorem g_tt {o : CO} : gatS P Γ N R Q (.p (.s (.bool true))) true o l fs L M = opS P Γ N R Q o l fs L M := by simp [gatS, gateE]
theorem g_tf {o : CO} : gatS P Γ N R Q (.p (.s (.bool true))) false o l fs L M = opsS P Γ N R Q l fs (putL L o.dst undA) M := by simp [gatS, gateE]
theorem g_ft {o : CO} : gatS P Γ N R Q (.p (.s (.bool false))) true o l fs L M = opsS P Γ N R Q l fs (putL L o.dst undA) M := by simp [gatS, gateE]
theorem g_ff {o : CO} : gatS P Γ N R Q (.p (.s (.bool false))) false o l fs L M = opS P Γ N R Q o l fs L M := by simp [gatS, gateE]
theorem gt_tt {o : CO} : gatT P Γ N R Q D tr (.p (.s (.bool true))) true o l fs L M = opT P Γ N R Q D tr o l fs L M := by simp [gatT, gateE]
theorem gt_tf {o : CO} : gatT P Γ N R Q D tr (.p (.s (.bool true))) false o l fs L M = opsT P Γ N R Q D (([], []) :: tr) l fs (putL L o.dst undA) M := by simp [gatT, gateE]
theorem gt_ft {o : CO} : gatT P Γ N R Q D tr (.p (.s (.bool false))) true o l fs L M = opsT P Γ N R Q D (([], []) :: tr) l fs (putL L o.dst undA) M := by simp [gatT, gateE]
theorem gt_ff {o : CO} : gatT P Γ N R Q D tr (.p (.s (.bool false))) false o l fs L M = opT P Γ N R Q D tr o l fs L M := by simp [gatT, gateE]
theorem g_u {o : CO} {t : Bool} : gatS P Γ N R Q (.p (.s (.tuple #[]))) t o l fs L M = opsS P Γ N R Q l fs (putL L o.dst undA) M := by simp [gatS, gateE]
theorem gt_u {o : CO} {t : Bool} : gatT P Γ N R Q D tr (.p (.s (.tuple #[]))) t o l fs L M = opsT P Γ N R Q D (([], []) :: tr) l fs (putL L o.dst undA) M := by simp [gatT, gateE]
theorem n_t {a b : CC} : conS P Γ N R Q (.p (.s (.bool true))) a b fs L M = codeS P Γ N R Q a fs L M := by simp [conS, condE]
theorem n_f {a b : CC} : conS P Γ N R Q (.p (.s (.bool false))) a b fs L M = codeS P Γ N R Q b fs L M := by simp [conS, condE]

/-! Forks -/
theorem fork_gate {t b : Bool} {o : CO} (h1 : t = b → opS P Γ N R Q o l fs L M) (h2 : t = !b → opsS P Γ N R Q l fs (putL L o.dst undA) M) : gatS P Γ N R Q (.p (.s (.bool t))) b o l fs L M :=
  .inl ⟨t, rfl, h1, fun h => h2 (by cases t <;> cases b <;> simp at h ⊢)⟩
theorem fork_gateT {t b : Bool} {o : CO} (h1 : t = b → opT P Γ N R Q D tr o l fs L M) (h2 : t = !b → opsT P Γ N R Q D (([], []) :: tr) l fs (putL L o.dst undA) M) : gatT P Γ N R Q D tr (.p (.s (.bool t))) b o l fs L M :=
  .inl ⟨t, rfl, h1, fun h => h2 (by cases t <;> cases b <;> simp at h ⊢)⟩
theorem fork_cond {t : Bool} {a b : CC} (h1 : t = true → codeS P Γ N R Q a fs L M) (h2 : t = false → codeS P Γ N R Q b fs L M) : conS P Γ N R Q (.p (.s (.bool t))) a b fs L M := ⟨t, rfl, h1, h2⟩

/-! Calls, loops -/
theorem sh_call {pre post : ML} {f : FuncId} {first cap args args' : List AV} {r : AV} (hG : Good P Γ f args' pre (.ret r) post) (as : List (Nat × Nat))
    (hle : LeAs (first ++ args ++ cap) (renL (rho as M.length) args')) (h1 : oldsE M (rho as M.length) pre) (h2 : injB ((keys post).map (rho as M.length)) = true) (h3 : newsE M pre (rho as M.length) (keys post))
    (hK : opsS P Γ N R Q l fs (putL L d (r.ren (rho as M.length))) (renM (rho as M.length) post ++ M)) : calS P Γ N R Q (.fn (.func f) first cap) args d l fs L M := callE_ret hG as hle h1 h2 h3 hK
theorem sh_callI {pre : ML} {f : FuncId} {first cap args args' : List AV} {r : (Nat → Nat) → AV} {posts : (Nat → Nat) → ML} (hG : GoodI P Γ f args' pre r posts) (as : List (Nat × Nat))
    (hle : LeAs (first ++ args ++ cap) (renL (rho as M.length) args')) (h1 : oldsE M (rho as M.length) pre) (h2 : ∀ i, injB ((keys (posts i)).map (rho as M.length)) = true) (h3 : ∀ i, newsE M pre (rho as M.length) (keys (posts i)))
    (hK : ∀ i, opsS P Γ N R Q l fs (putL L d ((r i).ren (rho as M.length))) (renM (rho as M.length) (posts i) ++ M)) : calS P Γ N R Q (.fn (.func f) first cap) args d l fs L M := callE_retI hG as hle h1 h2 h3 hK
theorem sh_callT {pre post : ML} {f : FuncId} {first cap args args' : List AV} {r : AV} (hG : Good P Γ f args' pre (.ret r) post) (as : List (Nat × Nat))
    (hle : LeAs (first ++ args ++ cap) (renL (rho as M.length) args')) (h1 : oldsE M (rho as M.length) pre) (h2 : injB ((keys post).map (rho as M.length)) = true) (h3 : newsE M pre (rho as M.length) (keys post))
    (hK : opsT P Γ N R Q D (((keys post).map (rho as M.length), (keys post).map (rho as M.length)) :: tr) l fs (putL L d (r.ren (rho as M.length))) (renM (rho as M.length) post ++ M)) : calT P Γ N R Q D tr (.fn (.func f) first cap) args d l fs L M := callTE_ret hG as hle h1 h2 h3 hK

/-- The names that were there when the function began. -/
def Rof (pre : ML) : RD := rd pre
theorem sh_weak {M' : ML} {L' : EL} {pre : ML} (l : List (Nat × Nat)) (h1 : envE L (rho l 0) L') (h2 : memsE M (rho l 0) M') (h3 : injB ((keys M').map (rho l 0)) = true) (h4 : namesIn M' (L'.flatMap fun p => p.2.names) = true) (h5 : namesIn M' (M'.flatMap fun p => p.2.names) = true)
    (h6 : fixE (rho l 0) (keys pre) = true) (h7 : namesIn M' (keys pre) = true) : WeakG (Rof pre) L M L' M' := weakG_go (weakE_of l h1 h2 h3 h4 h5 h6 h7)
theorem sh_start (hm : P.follows .mixedOrders = true) {f : FuncId} {cc : CC} {rs : List RV} {np : Nat} (hF : Fun P f N cc rs np) {args : List AV} {pre post : ML} {e : AE} (hnp : args.length = np)
    (hn : namesIn pre (namesL args) = true ∧ namesIn pre (pre.flatMap fun p => p.2.names) = true ∧ namesIn post e.names = true ∧ namesIn post (post.flatMap fun p => p.2.names) = true ∧ namesIn post (keys pre) = true)
    (h : codeS P Γ N (Rof pre) (finE pre rs e post) cc [] (argE args) pre) : Good P Γ f args pre e post := good_by hm hF hnp hn h

theorem sh_startG (hm : P.follows .mixedOrders = true) {f : FuncId} {cc : CC} {rs : List RV} {np : Nat} (hF : Fun P f N cc rs np) {args : List AV} {pre post : ML} {e : AE} (hnp : args.length = np)
    (hn : namesIn pre (namesL args) = true ∧ namesIn pre (pre.flatMap fun p => p.2.names) = true ∧ namesIn post e.names = true ∧ namesIn post (post.flatMap fun p => p.2.names) = true ∧ namesIn post (keys pre) = true)
    (h : codeS P Γ N (Rof pre) (finG pre rs e post) cc [] (argE args) pre) : Good P Γ f args pre e post := good_byG hm hF hnp hn h
theorem fg_normal {pre post : ML} {rs : List RV} {e : AE} : exS P Γ N R (finG pre rs e post) .normal [] L M = finY rs pre e post L M := nd rfl
theorem fg_ret {pre post : ML} {rs : List RV} {e : AE} : exS P Γ N R (finG pre rs e post) .ret [] L M = finY rs pre e post L M := nd rfl
theorem finY_S {pre post : ML} {rs : List RV} {e : AE} (h : finS (rvsE L M rs) pre e post M) : finY rs pre e post L M := finY_go h

/-- A loop. -/
theorem sh_loop (hm : P.follows .mixedOrders = true) {c : CC} (J : Nat → EL → ML → Prop) {n : Nat} (h0 : ∃ L' M', J n L' M' ∧ WeakG R L M L' M')
    (round : ∀ n L M, J n L M → codeS P Γ N R (thenE (fun L M => ∃ k L' M', k < n ∧ J k L' M' ∧ WeakG R L M L' M') (QF P Γ N R Q fs)) c [] L M) : looS P Γ N R Q c fs L M := loopE_byG hm J h0 round

/-! A slice against nil -/
def nilS (P : Program) (Γ : Globs) (N : Nat) (R : RD) (Q : QE) (v : AV) (neg : Bool) (d : Option Nat) (l : List CO) (fs : List Fr) (L : EL) (M : ML) : Prop := nilO neg v fun r => opsS P Γ N R Q l fs (putL L d r) M
@[congr] theorem nilS_congr {v v' : AV} {neg : Bool} (h : v = v') : nilS P Γ N R Q v neg d l fs L M = nilS P Γ N R Q v' neg d l fs L M := by rw [h]
theorem s_isnil (neg : Bool) (x : X) : opS P Γ N R Q ⟨d, .isnil neg x, gd⟩ l fs L M = nilS P Γ N R Q (x.ev Γ (look L)) neg d l fs L M := nd rfl
theorem nil_at (neg : Bool) : nilS P Γ N R Q (.p (.s (.slice none 0 0))) neg d l fs L M = opsS P Γ N R Q l fs (putL L d (.bool (true != neg))) M := nd rfl
theorem nil_any {v : AV} {neg : Bool} (hv : (nilV v).isSome = true) (h : ∀ b, opsS P Γ N R Q l fs (putL L d (.bool b)) M) : nilS P Γ N R Q v neg d l fs L M := by
  unfold nilS nilO
  split
  · exact h _
  · exact ⟨h _, h _⟩
  · rename_i e; rw [e] at hv; cases hv
theorem nil_no {v : AV} {neg : Bool} (hv : nilV v = some (some false)) (h : opsS P Γ N R Q l fs (putL L d (.bool (false != neg))) M) : nilS P Γ N R Q v neg d l fs L M := by
  unfold nilS nilO
  rw [hv]
  exact h
theorem nil_open {v : AV} {neg : Bool} (hv : nilV v = some none) (h : ∀ b, opsS P Γ N R Q l fs (putL L d (.bool b)) M) : nilS P Γ N R Q v neg d l fs L M := by
  unfold nilS nilO
  rw [hv]
  exact ⟨h true, h false⟩
theorem l_normal {K : EL → ML → Prop} : exS P Γ N R (thenE K Q) .normal [] L M = K L M := nd rfl
theorem l_exit {K : EL → ML → Prop} (i : Nat) : exS P Γ N R (thenE K (QF P Γ N R Q fs)) (.exit i) [] L M = exS P Γ N R Q (.exit i) fs L M := nd rfl
theorem l_ret {K : EL → ML → Prop} : exS P Γ N R (thenE K (QF P Γ N R Q fs)) .ret [] L M = exS P Γ N R Q .ret fs L M := nd rfl

/-! Each operation -/
theorem cpure_build (z : List PV) (p : List (Nat × Nat × X)) {env : Nat → AV} : cpure Γ env (.build z p) = buildE z (p.map fun q => (q.1, q.2.1, q.2.2.ev Γ env)) := by
  simp only [cpure, buildE, List.all_map, List.map_map]
  rfl
theorem cpure_slice (sz : Nat) (x : X) (lo hi : Option X) {env : Nat → AV} : cpure Γ env (.slice sz x lo hi) = sliceE sz (x.ev Γ env) (lo.map (X.ev Γ env)) (hi.map (X.ev Γ env)) := by
  have e1 : evO Γ env lo = intO (lo.map (X.ev Γ env)) := by cases lo <;> rfl
  have e2 : evO Γ env hi = intO (hi.map (X.ev Γ env)) := by cases hi <;> rfl
  simp only [cpure, sliceE, e1, e2, bind]
  cases hi <;> cases x.ev Γ env <;> rfl
theorem s_pick (c a b : X) : opS P Γ N R Q ⟨d, .pick c a b, gd⟩ l fs L M = resS P Γ N R Q (pickE (c.ev Γ (look L)) (a.ev Γ (look L)) (b.ev Γ (look L))) d l fs L M := nd rfl
theorem t_pick (c a b : X) : opT P Γ N R Q D tr ⟨d, .pick c a b, gd⟩ l fs L M = resT P Γ N R Q D tr ([], []) (pickE (c.ev Γ (look L)) (a.ev Γ (look L)) (b.ev Γ (look L))) d l fs L M := nd rfl
theorem s_bin (op : BinOp) (x y : X) : opS P Γ N R Q ⟨d, .bin op x y, gd⟩ l fs L M = resS P Γ N R Q (binE op (x.ev Γ (look L)) (y.ev Γ (look L))) d l fs L M := nd rfl
theorem t_bin (op : BinOp) (x y : X) : opT P Γ N R Q D tr ⟨d, .bin op x y, gd⟩ l fs L M = resT P Γ N R Q D tr ([], []) (binE op (x.ev Γ (look L)) (y.ev Γ (look L))) d l fs L M := nd rfl
theorem s_beq (n : Bool) (x y : X) : opS P Γ N R Q ⟨d, .beq n x y, gd⟩ l fs L M = resS P Γ N R Q (beqE n (x.ev Γ (look L)) (y.ev Γ (look L))) d l fs L M := nd rfl
theorem t_beq (n : Bool) (x y : X) : opT P Γ N R Q D tr ⟨d, .beq n x y, gd⟩ l fs L M = resT P Γ N R Q D tr ([], []) (beqE n (x.ev Γ (look L)) (y.ev Γ (look L))) d l fs L M := nd rfl
theorem s_eqs (n : Bool) (ks : List Nat) (x y : X) : opS P Γ N R Q ⟨d, .eqs n ks x y, gd⟩ l fs L M = resS P Γ N R Q (eqsE n ks (x.ev Γ (look L)) (y.ev Γ (look L))) d l fs L M := nd rfl
theorem t_eqs (n : Bool) (ks : List Nat) (x y : X) : opT P Γ N R Q D tr ⟨d, .eqs n ks x y, gd⟩ l fs L M = resT P Γ N R Q D tr ([], []) (eqsE n ks (x.ev Γ (look L)) (y.ev Γ (look L))) d l fs L M := nd rfl
theorem s_un (op : UnOp) (x : X) : opS P Γ N R Q ⟨d, .un op x, gd⟩ l fs L M = resS P Γ N R Q (unE op (x.ev Γ (look L))) d l fs L M := nd rfl
theorem t_un (op : UnOp) (x : X) : opT P Γ N R Q D tr ⟨d, .un op x, gd⟩ l fs L M = resT P Γ N R Q D tr ([], []) (unE op (x.ev Γ (look L))) d l fs L M := nd rfl
theorem s_toInt (k : IntKind) (x : X) : opS P Γ N R Q ⟨d, .toInt k x, gd⟩ l fs L M = resS P Γ N R Q (toIntE k (x.ev Γ (look L))) d l fs L M := nd rfl
theorem t_toInt (k : IntKind) (x : X) : opT P Γ N R Q D tr ⟨d, .toInt k x, gd⟩ l fs L M = resT P Γ N R Q D tr ([], []) (toIntE k (x.ev Γ (look L))) d l fs L M := nd rfl
theorem s_toStr (x : X) : opS P Γ N R Q ⟨d, .toStr x, gd⟩ l fs L M = resS P Γ N R Q (toStrE (x.ev Γ (look L))) d l fs L M := nd rfl
theorem t_toStr (x : X) : opT P Γ N R Q D tr ⟨d, .toStr x, gd⟩ l fs L M = resT P Γ N R Q D tr ([], []) (toStrE (x.ev Γ (look L))) d l fs L M := nd rfl
theorem s_strId (x : X) : opS P Γ N R Q ⟨d, .strId x, gd⟩ l fs L M = resS P Γ N R Q (strIdE (x.ev Γ (look L))) d l fs L M := nd rfl
theorem t_strId (x : X) : opT P Γ N R Q D tr ⟨d, .strId x, gd⟩ l fs L M = resT P Γ N R Q D tr ([], []) (strIdE (x.ev Γ (look L))) d l fs L M := nd rfl
theorem s_build (z : List PV) (p : List (Nat × Nat × X)) : opS P Γ N R Q ⟨d, .build z p, gd⟩ l fs L M = resS P Γ N R Q (buildE z (p.map fun q => (q.1, q.2.1, q.2.2.ev Γ (look L)))) d l fs L M := congrArg (fun r => bindO r fun r => opsS P Γ N R Q l fs (putL L d r) M) (cpure_build _ _)
theorem t_build (z : List PV) (p : List (Nat × Nat × X)) : opT P Γ N R Q D tr ⟨d, .build z p, gd⟩ l fs L M = resT P Γ N R Q D tr ([], []) (buildE z (p.map fun q => (q.1, q.2.1, q.2.2.ev Γ (look L)))) d l fs L M := congrArg (fun r => bindO r fun r => opsT P Γ N R Q D (([], []) :: tr) l fs (putL L d r) M) (cpure_build _ _)
theorem s_field (g : Bool) (off n : Nat) (x : X) : opS P Γ N R Q ⟨d, .field g off n x, gd⟩ l fs L M = resS P Γ N R Q (fieldE g off n (x.ev Γ (look L))) d l fs L M := nd rfl
theorem t_field (g : Bool) (off n : Nat) (x : X) : opT P Γ N R Q D tr ⟨d, .field g off n x, gd⟩ l fs L M = resT P Γ N R Q D tr ([], []) (fieldE g off n (x.ev Γ (look L))) d l fs L M := nd rfl
theorem s_index (g : Bool) (len sz : Nat) (x i : X) : opS P Γ N R Q ⟨d, .index g len sz x i, gd⟩ l fs L M = resS P Γ N R Q (indexE g len sz (x.ev Γ (look L)) (i.ev Γ (look L))) d l fs L M := nd rfl
theorem t_index (g : Bool) (len sz : Nat) (x i : X) : opT P Γ N R Q D tr ⟨d, .index g len sz x i, gd⟩ l fs L M = resT P Γ N R Q D tr ([], []) (indexE g len sz (x.ev Γ (look L)) (i.ev Γ (look L))) d l fs L M := nd rfl
theorem s_sindex (x i : X) : opS P Γ N R Q ⟨d, .sindex x i, gd⟩ l fs L M = resS P Γ N R Q (sindexE (x.ev Γ (look L)) (i.ev Γ (look L))) d l fs L M := nd rfl
theorem t_sindex (x i : X) : opT P Γ N R Q D tr ⟨d, .sindex x i, gd⟩ l fs L M = resT P Γ N R Q D tr ([], []) (sindexE (x.ev Γ (look L)) (i.ev Γ (look L))) d l fs L M := nd rfl
theorem s_extract (i : Nat) (x : X) : opS P Γ N R Q ⟨d, .extract i x, gd⟩ l fs L M = resS P Γ N R Q (extractE i (x.ev Γ (look L))) d l fs L M := nd rfl
theorem t_extract (i : Nat) (x : X) : opT P Γ N R Q D tr ⟨d, .extract i x, gd⟩ l fs L M = resT P Γ N R Q D tr ([], []) (extractE i (x.ev Γ (look L))) d l fs L M := nd rfl
theorem s_len (x : X) : opS P Γ N R Q ⟨d, .len x, gd⟩ l fs L M = resS P Γ N R Q (lenE (x.ev Γ (look L))) d l fs L M := nd rfl
theorem t_len (x : X) : opT P Γ N R Q D tr ⟨d, .len x, gd⟩ l fs L M = resT P Γ N R Q D tr ([], []) (lenE (x.ev Γ (look L))) d l fs L M := nd rfl
theorem s_slen (x : X) : opS P Γ N R Q ⟨d, .slen x, gd⟩ l fs L M = resS P Γ N R Q (slenE (x.ev Γ (look L))) d l fs L M := nd rfl
theorem t_slen (x : X) : opT P Γ N R Q D tr ⟨d, .slen x, gd⟩ l fs L M = resT P Γ N R Q D tr ([], []) (slenE (x.ev Γ (look L))) d l fs L M := nd rfl
theorem s_minmax (b : Bool) (x y : X) : opS P Γ N R Q ⟨d, .minmax b x y, gd⟩ l fs L M = resS P Γ N R Q (minmaxE b (x.ev Γ (look L)) (y.ev Γ (look L))) d l fs L M := nd rfl
theorem t_minmax (b : Bool) (x y : X) : opT P Γ N R Q D tr ⟨d, .minmax b x y, gd⟩ l fs L M = resT P Γ N R Q D tr ([], []) (minmaxE b (x.ev Γ (look L)) (y.ev Γ (look L))) d l fs L M := nd rfl
theorem s_slice (sz : Nat) (x : X) (lo hi : Option X) : opS P Γ N R Q ⟨d, .slice sz x lo hi, gd⟩ l fs L M = resS P Γ N R Q (sliceE sz (x.ev Γ (look L)) (lo.map (X.ev Γ (look L))) (hi.map (X.ev Γ (look L)))) d l fs L M := congrArg (fun r => bindO r fun r => opsS P Γ N R Q l fs (putL L d r) M) (cpure_slice _ _ _ _)
theorem t_slice (sz : Nat) (x : X) (lo hi : Option X) : opT P Γ N R Q D tr ⟨d, .slice sz x lo hi, gd⟩ l fs L M = resT P Γ N R Q D tr ([], []) (sliceE sz (x.ev Γ (look L)) (lo.map (X.ev Γ (look L))) (hi.map (X.ev Γ (look L)))) d l fs L M := congrArg (fun r => bindO r fun r => opsT P Γ N R Q D (([], []) :: tr) l fs (putL L d r) M) (cpure_slice _ _ _ _)
theorem s_faddr (n : Nat) (x : X) : opS P Γ N R Q ⟨d, .faddr n x, gd⟩ l fs L M = resS P Γ N R Q (faddrE n (x.ev Γ (look L))) d l fs L M := nd rfl
theorem t_faddr (n : Nat) (x : X) : opT P Γ N R Q D tr ⟨d, .faddr n x, gd⟩ l fs L M = resT P Γ N R Q D tr ([], []) (faddrE n (x.ev Γ (look L))) d l fs L M := nd rfl
theorem s_iaddrS (sz : Nat) (x i : X) : opS P Γ N R Q ⟨d, .iaddrS sz x i, gd⟩ l fs L M = resS P Γ N R Q (iaddrSE sz (x.ev Γ (look L)) (i.ev Γ (look L))) d l fs L M := nd rfl
theorem t_iaddrS (sz : Nat) (x i : X) : opT P Γ N R Q D tr ⟨d, .iaddrS sz x i, gd⟩ l fs L M = resT P Γ N R Q D tr ([], []) (iaddrSE sz (x.ev Γ (look L)) (i.ev Γ (look L))) d l fs L M := nd rfl
theorem s_iaddrA (sz n : Nat) (x i : X) : opS P Γ N R Q ⟨d, .iaddrA sz n x i, gd⟩ l fs L M = resS P Γ N R Q (iaddrAE sz n (x.ev Γ (look L)) (i.ev Γ (look L))) d l fs L M := nd rfl
theorem t_iaddrA (sz n : Nat) (x i : X) : opT P Γ N R Q D tr ⟨d, .iaddrA sz n x i, gd⟩ l fs L M = resT P Γ N R Q D tr ([], []) (iaddrAE sz n (x.ev Γ (look L)) (i.ev Γ (look L))) d l fs L M := nd rfl
theorem s_mkfn (f : Fn) (a b : List X) : opS P Γ N R Q ⟨d, .mkfn f a b, gd⟩ l fs L M = resS P Γ N R Q (some (.fn f (a.map (X.ev Γ (look L))) (b.map (X.ev Γ (look L))))) d l fs L M := nd rfl
theorem t_mkfn (f : Fn) (a b : List X) : opT P Γ N R Q D tr ⟨d, .mkfn f a b, gd⟩ l fs L M = resT P Γ N R Q D tr ([], []) (some (.fn f (a.map (X.ev Γ (look L))) (b.map (X.ev Γ (look L))))) d l fs L M := nd rfl
theorem s_mkif (t : TypeId) (x : X) : opS P Γ N R Q ⟨d, .mkif t x, gd⟩ l fs L M = resS P Γ N R Q (mkifE t (x.ev Γ (look L))) d l fs L M := nd rfl
theorem t_mkif (t : TypeId) (x : X) : opT P Γ N R Q D tr ⟨d, .mkif t x, gd⟩ l fs L M = resT P Γ N R Q D tr ([], []) (mkifE t (x.ev Γ (look L))) d l fs L M := nd rfl
theorem s_nilchk (x : X) : opS P Γ N R Q ⟨d, .nilchk x, gd⟩ l fs L M = resS P Γ N R Q (nilchkE (x.ev Γ (look L))) d l fs L M := nd rfl
theorem t_nilchk (x : X) : opT P Γ N R Q D tr ⟨d, .nilchk x, gd⟩ l fs L M = resT P Γ N R Q D tr ([], []) (nilchkE (x.ev Γ (look L))) d l fs L M := nd rfl
theorem s_arrptr (n : Nat) (x : X) : opS P Γ N R Q ⟨d, .arrptr n x, gd⟩ l fs L M = resS P Γ N R Q (arrptrE n (x.ev Γ (look L))) d l fs L M := nd rfl
theorem t_arrptr (n : Nat) (x : X) : opT P Γ N R Q D tr ⟨d, .arrptr n x, gd⟩ l fs L M = resT P Γ N R Q D tr ([], []) (arrptrE n (x.ev Γ (look L))) d l fs L M := nd rfl
theorem s_mv (x : X) : opS P Γ N R Q ⟨d, .mv x, gd⟩ l fs L M = resS P Γ N R Q (some (x.ev Γ (look L))) d l fs L M := nd rfl
theorem t_mv (x : X) : opT P Γ N R Q D tr ⟨d, .mv x, gd⟩ l fs L M = resT P Γ N R Q D tr ([], []) (some (x.ev Γ (look L))) d l fs L M := nd rfl
theorem s_load (g : Bool) (n : Nat) (a : X) : opS P Γ N R Q ⟨d, .load g n a, gd⟩ l fs L M = resS P Γ N R Q (loadE g n M (a.ev Γ (look L))) d l fs L M := nd rfl
theorem t_load (g : Bool) (n : Nat) (a : X) : opT P Γ N R Q D tr ⟨d, .load g n a, gd⟩ l fs L M = resT P Γ N R Q D tr (footP (a.ev Γ (look L)) false) (loadE g n M (a.ev Γ (look L))) d l fs L M := nd rfl
theorem s_box (x : X) : opS P Γ N R Q ⟨d, .box x, gd⟩ l fs L M = resM P Γ N R Q (boxE M (x.ev Γ (look L))) d l fs L := nd rfl
theorem t_box (x : X) : opT P Γ N R Q D tr ⟨d, .box x, gd⟩ l fs L M = resTM P Γ N R Q D tr ([M.length], [M.length]) (boxE M (x.ev Γ (look L))) d l fs L := nd rfl
theorem s_alloc (z : List PV) : opS P Γ N R Q ⟨d, .alloc z, gd⟩ l fs L M = resM P Γ N R Q (boxE M (.agg (z.map AV.p))) d l fs L := nd rfl
theorem t_alloc (z : List PV) : opT P Γ N R Q D tr ⟨d, .alloc z, gd⟩ l fs L M = resTM P Γ N R Q D tr ([M.length], [M.length]) (boxE M (.agg (z.map AV.p))) d l fs L := nd rfl
theorem s_bslice (sz len : Nat) (z : List PV) (p : List (Nat × X)) : opS P Γ N R Q ⟨d, .bslice sz len z p, gd⟩ l fs L M = resM P Γ N R Q (bsliceE M sz len z (p.map fun p => (p.1, p.2.ev Γ (look L)))) d l fs L := nd rfl
theorem t_bslice (sz len : Nat) (z : List PV) (p : List (Nat × X)) : opT P Γ N R Q D tr ⟨d, .bslice sz len z p, gd⟩ l fs L M = resTM P Γ N R Q D tr ([M.length], [M.length]) (bsliceE M sz len z (p.map fun p => (p.1, p.2.ev Γ (look L)))) d l fs L := nd rfl
theorem s_append (sz b : Nat) (z : List PV) (s x : X) : opS P Γ N R Q ⟨d, .append sz b z s x, gd⟩ l fs L M = resM P Γ N R Q (appE M sz b z (s.ev Γ (look L)) (x.ev Γ (look L))) d l fs L := nd rfl
theorem t_append (sz b : Nat) (z : List PV) (s x : X) : opT P Γ N R Q D tr ⟨d, .append sz b z s x, gd⟩ l fs L M = resTM P Γ N R Q D tr (footA M.length (s.ev Γ (look L))) (appE M sz b z (s.ev Γ (look L)) (x.ev Γ (look L))) d l fs L := nd rfl
theorem s_aslice (sz n : Nat) (x : X) (lo hi : Option X) : opS P Γ N R Q ⟨d, .aslice sz n x lo hi, gd⟩ l fs L M = resM P Γ N R Q (asliceE M sz n (lo.map (X.ev Γ (look L))) (hi.map (X.ev Γ (look L))) (x.ev Γ (look L))) d l fs L := nd rfl
theorem t_aslice (sz n : Nat) (x : X) (lo hi : Option X) : opT P Γ N R Q D tr ⟨d, .aslice sz n x lo hi, gd⟩ l fs L M = resTM P Γ N R Q D tr (footP (x.ev Γ (look L)) true) (asliceE M sz n (lo.map (X.ev Γ (look L))) (hi.map (X.ev Γ (look L))) (x.ev Γ (look L))) d l fs L := nd rfl
theorem s_store (n : Nat) (a x : X) : opS P Γ N R Q ⟨d, .store n a x, gd⟩ l fs L M = stoS P Γ N R Q (storeE n M (x.ev Γ (look L)) (a.ev Γ (look L))) d l fs L := nd rfl
theorem t_store (n : Nat) (a x : X) : opT P Γ N R Q D tr ⟨d, .store n a x, gd⟩ l fs L M = stoT P Γ N R Q D tr (footP (a.ev Γ (look L)) true) (storeE n M (x.ev Γ (look L)) (a.ev Γ (look L))) d l fs L := nd rfl
theorem s_ext (e : EOp) (xs : List X) : opS P Γ N R Q ⟨d, .ext e xs, gd⟩ l fs L M = resM P Γ N R Q (extE e (xs.map (X.ev Γ (look L))) M) d l fs L := nd rfl
theorem t_ext (e : EOp) (xs : List X) : opT P Γ N R Q D tr ⟨d, .ext e xs, gd⟩ l fs L M = resTM P Γ N R Q D tr (extF e (xs.map (X.ev Γ (look L))) M.length) (extE e (xs.map (X.ev Γ (look L))) M) d l fs L := nd rfl
theorem s_call (f : X) (as : List X) : opS P Γ N R Q ⟨d, .call f as, gd⟩ l fs L M = calS P Γ N R Q (f.ev Γ (look L)) (as.map (X.ev Γ (look L))) d l fs L M := nd rfl
theorem t_call (f : X) (as : List X) : opT P Γ N R Q D tr ⟨d, .call f as, gd⟩ l fs L M = calT P Γ N R Q D tr (f.ev Γ (look L)) (as.map (X.ev Γ (look L))) d l fs L M := nd rfl
theorem s_panic (x : X) : opS P Γ N R Q ⟨d, .panic x, gd⟩ l fs L M = panS P Γ N R Q (x.ev Γ (look L)) fs L M := nd rfl
end

/-! Octets -/
def by1 (b : UInt8) : List PV := [.s (.int .u8 b.toNat)]
def bys (l : List UInt8) : List (List PV) := l.map by1
theorem bys_nil : bys [] = [] := nd rfl
theorem bys_append (a b : List UInt8) : bys (a ++ b) = bys a ++ bys b := by simp [bys]
theorem bys_take (n : Nat) (a : List UInt8) : (bys a).take n = bys (a.take n) := by simp [bys, List.map_take]
theorem bys_drop (n : Nat) (a : List UInt8) : (bys a).drop n = bys (a.drop n) := by simp [bys, List.map_drop]
theorem bys_length (a : List UInt8) : (bys a).length = a.length := by simp [bys]
theorem bys_cat (a b : List UInt8) : bys a ++ bys b = bys (a ++ b) := (bys_append a b).symm
theorem byteOf_by1 (b : UInt8) : byteOf (by1 b) = some b := by
  have := b.toNat_lt
  simp only [byteOf, by1]
  rw [if_pos ⟨by omega, by omega⟩]
  simp
theorem asBytes_bys : ∀ l : List UInt8, asBytes (bys l) = some l
  | [] => rfl
  | b :: l => by
    have ih := asBytes_bys l
    simp only [asBytes, bys, List.map_cons, List.mapM_cons, byteOf_by1] at ih ⊢
    rw [ih]
    rfl
theorem bys_inj {a b : List UInt8} (h : bys a = bys b) : a = b := by
  have := asBytes_bys a
  rw [h, asBytes_bys] at this
  exact (Option.some.inj this).symm
theorem str_eq (a b : List UInt8) : ((⟨a.toArray⟩ : ByteArray).toList == (⟨b.toArray⟩ : ByteArray).toList) = decide (a = b) := by
  by_cases h : a = b
  · subst h; simp
  · have : (⟨a.toArray⟩ : ByteArray).toList ≠ (⟨b.toArray⟩ : ByteArray).toList := fun e => h (by
      have h1 := congrArg List.toByteArray e
      simpa using h1)
    simp [h]
end Go.Shade
