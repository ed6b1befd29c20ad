/- The framework's rules for the simplifier. Conditions: none. -/
import Derived.Test.YtdhgdpcmdmgchaaGreatFwR
import Derived.Laws.BitsLemmas
namespace Go.Proofs.YtdhgdpcmdmgchaaGreat.Fw
open Go
set_option linter.unusedSimpArgs false
set_option linter.unusedVariables false

section
variable {P : Program} {T : Tab} {sl : List (Nat × AV)} {bl : List (Nat × Blk)} {N : Sx → Prop} {X : Exit → Sx → Prop} {K : Sx → Prop} {dm : DM} {draw : Bool} {ops : Array Oper} {l : List Oper}

theorem V_skip : V P T .skip ⟨sl, bl⟩ N X = N ⟨sl, bl⟩ := (rfl)
theorem V_label {n} : V P T (.label n) ⟨sl, bl⟩ N X = N ⟨sl, bl⟩ := (rfl)
theorem V_region {id} : V P T (.region id l.toArray false) ⟨sl, bl⟩ N X = VO P T .text l.toArray l ⟨sl, bl⟩ N := (rfl)
def VReg (P : Program) (T : Tab) (l : List Oper) (st : Bool) (s : Sx) (N : Sx → Prop) : Pd (l, s, N) := match st with
  | true => VO P T (.ask (roots l l)) l.toArray l s N
  | false => VO P T .free l.toArray l s N
theorem V_drawn {id} : V P T (.region id l.toArray true) ⟨sl, bl⟩ N X = VReg P T l (hasSt l) ⟨sl, bl⟩ N := by
  show VO P T (dmOf true l) l.toArray l ⟨sl, bl⟩ N = _
  unfold dmOf VReg
  rw [if_pos rfl]
  cases hasSt l <;> rfl
def VRegR (P : Program) (T : Tab) (l : List Oper) (R : List Nat) (s : Sx) (N : Sx → Prop) : Pd (l, s, N) := VO P T (.ask R) l.toArray l s N
theorem VReg_t : VReg P T l true ⟨sl, bl⟩ N = VRegR P T l (roots l l) ⟨sl, bl⟩ N := (rfl)
theorem VRegR_eq {R} : VRegR P T l R ⟨sl, bl⟩ N = VO P T (.ask R) l.toArray l ⟨sl, bl⟩ N := (rfl)
theorem VReg_f : VReg P T l false ⟨sl, bl⟩ N = VO P T .free l.toArray l ⟨sl, bl⟩ N := (rfl)
theorem V_seq {a b} : V P T (.seq a b) ⟨sl, bl⟩ N X = V P T a ⟨sl, bl⟩ (fun s' => V P T b s' N X) X := (rfl)
def CondK (P : Program) (T : Tab) (c : Operand) (x : AV) (t e : Code) (s : Sx) (N : Sx → Prop) (X : Exit → Sx → Prop) : Pd (t, e, N, X) := match x with
    | .lf (.bool b) => (b = true → V P T t ⟨putOp c (.lf (.bool true)) s.sl, s.bl⟩ N X) ∧ (b = false → V P T e ⟨putOp c (.lf (.bool false)) s.sl, s.bl⟩ N X)
    | _ => False
def CondJ (P : Program) (T : Tab) (j : Bool) (c : Operand) (t e : Code) (s : Sx) (N : Sx → Prop) (X : Exit → Sx → Prop) : Pd (t, e, s, N, X) := match j with
  | true => VJoin P T c t e s N X
  | false => CondK P T c (evA s.sl c) t e s N X
theorem V_cond {c t e} : V P T (.cond c t e) ⟨sl, bl⟩ N X = CondJ P T (joins T.js c) c t e ⟨sl, bl⟩ N X := by
  show (if joins T.js c = true then _ else _ : Prop) = _
  unfold CondJ
  cases joins T.js c <;> rfl
theorem CondJ_f {c t e} : CondJ P T false c t e ⟨sl, bl⟩ N X = CondK P T c (evA sl c) t e ⟨sl, bl⟩ N X := (rfl)
theorem CondJ_t {c t e} : CondJ P T true c t e ⟨sl, bl⟩ N X = VJoin P T c t e ⟨sl, bl⟩ N X := (rfl)
/-- The table with joins. -/
def Tab.join (T : Tab) (js : List Nat) : Tab := { T with js := js }
theorem join_td {js t} : (T.join js).td t = T.td t := (rfl)
theorem join_mu {js t} : (T.join js).mu t = T.mu t := (rfl)
theorem join_bo {js t} : (T.join js).bo t = T.bo t := (rfl)
theorem join_js {js} : (T.join js).js = js := (rfl)
theorem join_esz {js t} : (T.join js).esz t = T.esz t := (rfl)
theorem join_eqv {js n t x y} : (T.join js).eqv n t x y = T.eqv n t x y := by
  have : ∀ n, (T.join js).eqv n = T.eqv n := by
    intro n
    induction n with
    | zero => rfl
    | succ n ih =>
      funext t x y
      have hF : ∀ (fl : List (Nat × Nat)) (lx ly : List L), (T.join js).eqF (T.eqv n) fl lx ly = T.eqF (T.eqv n) fl lx ly := by
        intro fl
        induction fl with
        | nil => intro lx ly; rfl
        | cons f fl ihf =>
          intro lx ly
          obtain ⟨o, ft⟩ := f
          simp only [Tab.eqF, join_td, ihf]
      simp only [Tab.eqv, join_td, ih, hF]
  rw [this]
theorem join_ok {js} (h : TabOk P T) : TabOk P (T.join js) := fun t d ht => h t d ht
def CB (b : Bool) (A B : Prop) : Pd (A, B) := (b = true → A) ∧ (b = false → B)
theorem CB_t {A B : Prop} : CB true A B = A := by simp [CB]
theorem CB_f {A B : Prop} : CB false A B = B := by simp [CB]
theorem CB_any {b : Bool} {A B : Prop} : CB b A B = ((b = true → A) ∧ (b = false → B)) := (rfl)
theorem CondK_bool {c b t e} : CondK P T c (.lf (.bool b)) t e ⟨sl, bl⟩ N X = CB b (V P T t ⟨putOp c (.lf (.bool true)) sl, bl⟩ N X) (V P T e ⟨putOp c (.lf (.bool false)) sl, bl⟩ N X) := (rfl)
theorem V_block {id c} : V P T (.block id c) ⟨sl, bl⟩ N X = V P T c ⟨sl, bl⟩ N (fun e s' => match e with
    | .exit id' => if id' = id then N s' else X (.exit id') s'
    | e => X e s') := (rfl)
theorem V_loop {c} : V P T (.loop c) ⟨sl, bl⟩ N X = VLoop P T c ⟨sl, bl⟩ N X := (rfl)
theorem V_exit {id} : V P T (.exit id) ⟨sl, bl⟩ N X = X (.exit id) ⟨sl, bl⟩ := (rfl)
theorem V_ret : V P T .ret ⟨sl, bl⟩ N X = X .ret ⟨sl, bl⟩ := (rfl)

theorem VO_nil : VO P T dm ops [] ⟨sl, bl⟩ K = K ⟨sl, bl⟩ := (rfl)
theorem VO_none {d op ty pos af} : VO P T .text ops (⟨d, op, ty, pos, af, none⟩ :: l) ⟨sl, bl⟩ K =
    if nilOp ⟨d, op, ty, pos, af, none⟩ = true then VNil T ⟨d, op, ty, pos, af, none⟩ ⟨sl, bl⟩ fun s' => VO P T .text ops l s' K else VOp P T ⟨d, op, ty, pos, af, none⟩ ⟨sl, bl⟩ fun s' => VO P T .text ops l s' K := by
  simp only [VO, VAsk, true_and, nilM]
theorem VO_noneF {d op ty pos af} : VO P T .free ops (⟨d, op, ty, pos, af, none⟩ :: l) ⟨sl, bl⟩ K = VOp P T ⟨d, op, ty, pos, af, none⟩ ⟨sl, bl⟩ fun s' => VO P T .free ops l s' K := by
  simp only [VO, VAsk, true_and, nilM, Bool.false_eq_true, if_false]
def AskK (p : Prop) (A : Prop) : Pd A := p ∧ A
theorem AskK_eq {p A : Prop} : AskK p A = (p ∧ A) := (rfl)
theorem AskK_t {A : Prop} : AskK True A = A := by simp [AskK]
theorem VO_noneA {d op ty pos af R} : VO P T (.ask R) ops (⟨d, op, ty, pos, af, none⟩ :: l) ⟨sl, bl⟩ K =
    AskK (gdOp ops.toList (xG R bl) (xE bl) (evA sl) op) (VOp P T ⟨d, op, ty, pos, af, none⟩ ⟨sl, bl⟩ fun s' => VO P T (.ask R) ops l s' K) := by
  simp only [VO, VAsk, nilM, Bool.false_eq_true, if_false]; rfl
/-- What stands behind a guard. -/
def askOf (dm : DM) (ops : Array Oper) (op : Op) (sl : List (Nat × AV)) (bl : List (Nat × Blk)) (A : Prop) : Pd A := match dm with
  | .ask R => AskK (gdOp ops.toList (xG R bl) (xE bl) (evA sl) op) A
  | _ => A
theorem askOf_text {op A} : askOf .text ops op sl bl A = A := (rfl)
theorem askOf_free {op A} : askOf .free ops op sl bl A = A := (rfl)
theorem askOf_ask {R op A} : askOf (.ask R) ops op sl bl A = AskK (gdOp ops.toList (xG R bl) (xE bl) (evA sl) op) A := (rfl)
def GuardK (P : Program) (T : Tab) (dm : DM) (ops : Array Oper) (o : Oper) (l : List Oper) (want : Bool) (d : Option Nat) (x : AV) (s : Sx) (K : Sx → Prop) : Pd (ops, o, l, K) := match d with
  | some d => match x with
    | .lf (.bool b) => (b = want → askOf dm ops o.op (putA d (.lf (.bool want)) s.sl) s.bl (VOp P T o ⟨putA d (.lf (.bool want)) s.sl, s.bl⟩ fun s' => VO P T dm ops l s' K)) ∧
        (b = (!want) → VO P T dm ops l ⟨putOA o.dst (.tup []) (putA d (.lf (.bool (!want))) s.sl), s.bl⟩ K)
    | .tup [] => VO P T dm ops l ⟨putOA o.dst (.tup []) s.sl, s.bl⟩ K
    | _ => False
  | none => False
theorem VO_some {d op ty pos af j want} : VO P T dm ops (⟨d, op, ty, pos, af, some (j, want)⟩ :: l) ⟨sl, bl⟩ K =
    match (ops[j]?).bind (·.dst) with
      | some d' => GuardK P T dm ops ⟨d, op, ty, pos, af, some (j, want)⟩ l want (some d') (getA d' sl) ⟨sl, bl⟩ K
      | none => False := by
  simp only [VO]
  cases (ops[j]?).bind (·.dst) with
  | none => rfl
  | some d' =>
    simp only [GuardK]
    cases dm <;> simp only [VAsk, true_and, askOf, AskK] <;> rfl
def GB (b want : Bool) (A B : Prop) : Pd (A, B) := (b = want → A) ∧ (b = (!want) → B)
theorem GB_tt {A B : Prop} : GB true true A B = A := by simp [GB]
theorem GB_ff {A B : Prop} : GB false false A B = A := by simp [GB]
theorem GB_tf {A B : Prop} : GB true false A B = B := by simp [GB]
theorem GB_ft {A B : Prop} : GB false true A B = B := by simp [GB]
theorem GB_any {b want : Bool} {A B : Prop} : GB b want A B = ((b = want → A) ∧ (b = (!want) → B)) := (rfl)
theorem GuardK_bool {d op ty pos af g want d' b} : GuardK P T dm ops ⟨d, op, ty, pos, af, g⟩ l want (some d') (.lf (.bool b)) ⟨sl, bl⟩ K =
    GB b want (askOf dm ops op (putA d' (.lf (.bool want)) sl) bl (VOp P T ⟨d, op, ty, pos, af, g⟩ ⟨putA d' (.lf (.bool want)) sl, bl⟩ fun s' => VO P T dm ops l s' K))
      (VO P T dm ops l ⟨putOA d (.tup []) (putA d' (.lf (.bool (!want))) sl), bl⟩ K) := (rfl)
theorem GuardK_skip {d op ty pos af g want d'} : GuardK P T dm ops ⟨d, op, ty, pos, af, g⟩ l want (some d') (.tup []) ⟨sl, bl⟩ K = VO P T dm ops l ⟨putOA d (.tup []) sl, bl⟩ K := (rfl)
theorem VOp_call {d f args tys ty pos af g} : VOp P T ⟨d, .call { callee := .value f, args := args, argTypes := tys }, ty, pos, af, g⟩ ⟨sl, bl⟩ K = match evA sl f with
    | .lf (.fn fid) => args.size = tys.size ∧ VCall P T fid (args.toList.zip tys.toList) d ⟨sl, bl⟩ K
    | _ => False := (rfl)
theorem VOp_move {d x ty pos af g} : VOp P T ⟨d, .move x, ty, pos, af, g⟩ ⟨sl, bl⟩ K = VStep T ⟨d, .move x, ty, pos, af, g⟩ ⟨sl, bl⟩ K := (rfl)
theorem VOp_assign {d x ty pos af g} : VOp P T ⟨d, .assign x, ty, pos, af, g⟩ ⟨sl, bl⟩ K = VStep T ⟨d, .assign x, ty, pos, af, g⟩ ⟨sl, bl⟩ K := (rfl)
theorem VOp_pick {d c x y ty pos af g} : VOp P T ⟨d, .pick c x y, ty, pos, af, g⟩ ⟨sl, bl⟩ K = VStep T ⟨d, .pick c x y, ty, pos, af, g⟩ ⟨sl, bl⟩ K := (rfl)
theorem VOp_alloc {d t ty pos af g} : VOp P T ⟨d, .alloc t, ty, pos, af, g⟩ ⟨sl, bl⟩ K = VStep T ⟨d, .alloc t, ty, pos, af, g⟩ ⟨sl, bl⟩ K := (rfl)
theorem VOp_box {d t x ty pos af g} : VOp P T ⟨d, .box t x, ty, pos, af, g⟩ ⟨sl, bl⟩ K = VStep T ⟨d, .box t x, ty, pos, af, g⟩ ⟨sl, bl⟩ K := (rfl)
theorem VOp_build {d t ps ty pos af g} : VOp P T ⟨d, .build t ps, ty, pos, af, g⟩ ⟨sl, bl⟩ K = VStep T ⟨d, .build t ps, ty, pos, af, g⟩ ⟨sl, bl⟩ K := (rfl)
theorem VOp_buildSlice {d t n ps ty pos af g} : VOp P T ⟨d, .buildSlice t n ps, ty, pos, af, g⟩ ⟨sl, bl⟩ K = VStep T ⟨d, .buildSlice t n ps, ty, pos, af, g⟩ ⟨sl, bl⟩ K := (rfl)
theorem VOp_load {d t x ty pos af g} : VOp P T ⟨d, .load t x, ty, pos, af, g⟩ ⟨sl, bl⟩ K = VStep T ⟨d, .load t x, ty, pos, af, g⟩ ⟨sl, bl⟩ K := (rfl)
theorem VOp_store {d t x y ty pos af g} : VOp P T ⟨d, .store t x y, ty, pos, af, g⟩ ⟨sl, bl⟩ K = VStep T ⟨d, .store t x y, ty, pos, af, g⟩ ⟨sl, bl⟩ K := (rfl)
theorem VOp_fieldAddr {d t x f ty pos af g} : VOp P T ⟨d, .fieldAddr t x f, ty, pos, af, g⟩ ⟨sl, bl⟩ K = VStep T ⟨d, .fieldAddr t x f, ty, pos, af, g⟩ ⟨sl, bl⟩ K := (rfl)
theorem VOp_field {d t x f ty pos af g} : VOp P T ⟨d, .field t x f, ty, pos, af, g⟩ ⟨sl, bl⟩ K = VStep T ⟨d, .field t x f, ty, pos, af, g⟩ ⟨sl, bl⟩ K := (rfl)
theorem VOp_indexAddr {d t x i ty pos af g} : VOp P T ⟨d, .indexAddr t x i, ty, pos, af, g⟩ ⟨sl, bl⟩ K = VStep T ⟨d, .indexAddr t x i, ty, pos, af, g⟩ ⟨sl, bl⟩ K := (rfl)
theorem VOp_slice {d t x lo hi mx ty pos af g} : VOp P T ⟨d, .slice t x lo hi mx, ty, pos, af, g⟩ ⟨sl, bl⟩ K = VStep T ⟨d, .slice t x lo hi mx, ty, pos, af, g⟩ ⟨sl, bl⟩ K := (rfl)
theorem VOp_makeSlice {d t n c ty pos af g} : VOp P T ⟨d, .makeSlice t n c, ty, pos, af, g⟩ ⟨sl, bl⟩ K = VStep T ⟨d, .makeSlice t n c, ty, pos, af, g⟩ ⟨sl, bl⟩ K := (rfl)
theorem VOp_binOp {d o xt x y yt ty pos af g} : VOp P T ⟨d, .binOp o xt x y yt, ty, pos, af, g⟩ ⟨sl, bl⟩ K = VStep T ⟨d, .binOp o xt x y yt, ty, pos, af, g⟩ ⟨sl, bl⟩ K := (rfl)
theorem VOp_unOp {d o t x ty pos af g} : VOp P T ⟨d, .unOp o t x, ty, pos, af, g⟩ ⟨sl, bl⟩ K = VStep T ⟨d, .unOp o t x, ty, pos, af, g⟩ ⟨sl, bl⟩ K := (rfl)
theorem VOp_convert {d t u x ty pos af g} : VOp P T ⟨d, .convert t u x, ty, pos, af, g⟩ ⟨sl, bl⟩ K = VStep T ⟨d, .convert t u x, ty, pos, af, g⟩ ⟨sl, bl⟩ K := (rfl)
theorem VOp_extract {d x i ty pos af g} : VOp P T ⟨d, .extract x i, ty, pos, af, g⟩ ⟨sl, bl⟩ K = VStep T ⟨d, .extract x i, ty, pos, af, g⟩ ⟨sl, bl⟩ K := (rfl)
theorem VOp_builtin {d b args tys ty pos af g} : VOp P T ⟨d, .call { callee := .builtin b, args := args, argTypes := tys }, ty, pos, af, g⟩ ⟨sl, bl⟩ K = VStep T ⟨d, .call { callee := .builtin b, args := args, argTypes := tys }, ty, pos, af, g⟩ ⟨sl, bl⟩ K := (rfl)
def OutK (x : Option Out) (d : Option Nat) (s : Sx) (K : Sx → Prop) : Pd K := match x with
    | none => False
    | some out => out.pre ∧ out.frz.all (100 ≤ ·) = true ∧ match out.mak with
      | none => K ⟨putOA d out.v s.sl, setOL out.upd (frzL out.frz s.bl)⟩
      | some k => getB (idOf d 0) s.bl = none ∧ K ⟨putOA d out.v s.sl, setL (idOf d 0) k (setOL out.upd (frzL out.frz s.bl))⟩
theorem VStep_eq {d op ty pos af g} : VStep T ⟨d, op, ty, pos, af, g⟩ ⟨sl, bl⟩ K = OutK (step T (evA sl) (fun i => getB i bl) ⟨d, op, ty, pos, af, g⟩) d ⟨sl, bl⟩ K := (rfl)
theorem OutK_none {d pre v frz upd} : OutK (some ⟨pre, v, frz, none, upd⟩) d ⟨sl, bl⟩ K = (pre ∧ frz.all (100 ≤ ·) = true ∧ K ⟨putOA d v sl, setOL upd (frzL frz bl)⟩) := (rfl)
theorem OutK_some {d pre v frz upd k} : OutK (some ⟨pre, v, frz, some k, upd⟩) d ⟨sl, bl⟩ K = (pre ∧ frz.all (100 ≤ ·) = true ∧ getB (idOf d 0) bl = none ∧ K ⟨putOA d v sl, setL (idOf d 0) k (setOL upd (frzL frz bl))⟩) := (rfl)
def ArgK (P : Program) (T : Tab) (f : Nat) (x : Option (List Arg × List Nat)) (d : Option Nat) (s : Sx) (K : Sx → Prop) : Pd K := match x with
      | some (as, fz) => CallK P T f as fz d s K
      | none => False
def ArgM (P : Program) (T : Tab) (f : Nat) (x : Option (List Arg × List Nat × Nat × Nat × Nat)) (d : Option Nat) (s : Sx) (K : Sx → Prop) : Pd K := match x with
      | some (as, fz, i, q, m) => CallM P T f as fz i q m d s K
      | none => False
theorem VCall_eq {f xs d} : VCall P T f xs d ⟨sl, bl⟩ K = match T.mu f with
    | none => ArgK P T f (argsOf T (fun i => getB i bl) (evA sl) xs) d ⟨sl, bl⟩ K
    | some pos => ArgM P T f (argsMut T (fun i => getB i bl) (evA sl) pos xs) d ⟨sl, bl⟩ K := (rfl)
theorem ArgK_some {f as fz d} : ArgK P T f (some (as, fz)) d ⟨sl, bl⟩ K = CallK P T f as fz d ⟨sl, bl⟩ K := (rfl)
theorem ArgM_some {f as fz i q m d} : ArgM P T f (some (as, fz, i, q, m)) d ⟨sl, bl⟩ K = CallM P T f as fz i q m d ⟨sl, bl⟩ K := (rfl)

theorem wrap_i64 {x : Int} (h : -9223372036854775808 ≤ x ∧ x ≤ 9223372036854775807) : IntKind.i64.wrap x = x := by
  have e := IntKind.wrap_i64 x
  omega
theorem wrap_u32 {x : Int} (h : 0 ≤ x ∧ x ≤ 4294967295) : IntKind.u32.wrap x = x := by
  have e : IntKind.u32.wrap x = x % 4294967296 := by simp [IntKind.wrap, IntKind.bits, IntKind.signed]
  omega
theorem wrap_u64 {x : Int} (h : 0 ≤ x ∧ x ≤ 18446744073709551615) : IntKind.u64.wrap x = x := by
  have e : IntKind.u64.wrap x = x % 18446744073709551616 := by simp [IntKind.wrap, IntKind.bits, IntKind.signed]
  omega
theorem seg_z {p : Nat} {cs : List L} : seg p 0 cs = [] := by simp [seg]
theorem seg_s {p n : Nat} {c : L} {cs : List L} : seg (p + 1) n (c :: cs) = seg p n cs := by simp [seg]
theorem seg_c {n : Nat} {c : L} {cs : List L} : seg 0 (n + 1) (c :: cs) = c :: seg 0 n cs := by simp [seg]
theorem splice_z {cs : List L} : splice 0 [] cs = cs := by simp [splice]
theorem splice_s {p : Nat} {ls : List L} {c : L} {cs : List L} : splice (p + 1) ls (c :: cs) = c :: splice p ls cs := by simp [splice, Nat.add_right_comm]
theorem splice_c {l c : L} {ls cs : List L} : splice 0 (l :: ls) (c :: cs) = l :: splice 0 ls cs := by simp [splice]

theorem toNat_add {i j : Nat} : ((i : Int) + (j : Int)).toNat = i + j := by omega
theorem toNat_one {i : Nat} : ((i : Int) + 1).toNat = i + 1 := by omega

theorem VEnd_ret {rs par res} {s : Sx} : VEnd T rs par res .ret s = VRets T rs par res s := (rfl)
theorem VRets_mk {rs par res} : VRets T rs par res ⟨sl, bl⟩ = match ressX T ⟨sl, bl⟩ rs with
  | some xs => retsIs bl xs res.vals ∧ (ownIds xs res.vals).Nodup ∧ (∀ i ∈ ownIds xs res.vals, i ∉ lentIds xs res.vals) ∧ outIs bl res par
  | none => False := (rfl)
theorem rowCells_all {sz n st : Nat} {cs : List L} : rowCells ⟨sz, n, cs, st⟩ 0 n = cs := by simp [rowCells]
theorem tdiv_B {a : Nat} : (a : Int).tdiv 1000000000 = ((a / 1000000000 : Nat) : Int) := by
  have := Int.ofNat_tdiv a 1000000000; exact this.symm
theorem tmod_B {a : Nat} : (a : Int).tmod 1000000000 = ((a % 1000000000 : Nat) : Int) := by
  have := Int.ofNat_tmod a 1000000000; exact this.symm

/-- Forgetting and renaming, in one. -/
theorem weak' (r : List (Nat × Nat)) {s s' : Sx} (h : slotsW r s.sl s'.bl s'.sl ∧ blksW r s.bl s'.bl ∧ parW s'.bl s.bl ∧ (s'.bl.map fun x => renF r x.1).Nodup) : Weak s.st s'.st :=
  weak r h.2.2.2 h.2.1 h.2.2.1 h.1

end
attribute [go_sem ↓] V_skip V_label V_region V_drawn V_seq V_block V_loop V_exit V_ret V_cond VO_nil VO_none VO_noneF VO_noneA askOf_text askOf_free askOf_ask VO_some VOp_call VOp_move VOp_assign VOp_pick VOp_alloc VOp_box VOp_build VOp_buildSlice VOp_load VOp_store VOp_fieldAddr VOp_field VOp_indexAddr VOp_slice VOp_makeSlice VOp_binOp VOp_unOp VOp_convert VOp_extract VOp_builtin VStep_eq VCall_eq CB_t CB_f GB_tt GB_ff GB_tf GB_ft
attribute [go_sem] VReg_t VReg_f VRegR_eq AskK_eq AskK_t gdOp allX allP rt rtS defAt hasSt isSt rootOp rootAdd roots xG xE VNil step startX numbered argAV argB mutAt evA getA getB putA putOA putOp setL setOL frzL mkB nilOp isNil Tab.fld AV.ofConst idOf cellsOf partsOf fillP elemsOf argOf argsOf argsMut bndOf binI mksOf resAV avOf freshL RV.flat L.flat VEnd_ret VRets_mk ressX resX retsIs retIs outIs ownIds lentIds Option.getD_some Option.map_some Option.bind_some Option.isSome_some List.getElem?_toArray List.size_toArray List.toList_toArray List.length_cons List.length_nil List.getElem?_cons_zero List.getElem?_cons_succ List.zip_cons_cons List.zip_nil_left List.all_nil List.all_cons List.contains_nil List.contains_cons List.nil_append List.cons_append List.append_nil List.headD_cons List.not_mem_nil List.mem_cons List.nodup_nil List.nodup_cons or_false false_or not_false_eq_true Bool.not_true Bool.not_false Bool.and_true Bool.true_and Bool.and_self Bool.or_false Bool.false_or Bool.true_or decide_true decide_false true_implies false_implies forall_const forall_eq implies_true and_self true_and and_true false_and and_false Bool.false_eq_true decide_eq_true_eq decide_eq_false_iff_not beq_iff_eq beq_self_eq_true beq_eq_false_iff_ne Bool.and_eq_true CondJ_f CondJ_t joins join_td join_mu join_bo join_js join_esz join_eqv CondK_bool GuardK_bool GuardK_skip CB_any GB_any OutK_none OutK_some ArgK_some ArgM_some wrap_i64 wrap_u32 wrap_u64 ne_eq Int.toNat_natCast Nat.mul_one Nat.zero_add Nat.add_zero Int.le_refl Nat.le_refl Nat.sub_zero Int.natCast_zero seg_z seg_s seg_c splice_z splice_s splice_c AV.ag.injEq AV.lf.injEq AV.row.injEq AV.ad.injEq AV.pt.injEq L.bool.injEq L.sl.injEq L.int.injEq List.cons.injEq Option.some.injEq Int.natCast_add Int.natCast_one Int.cast_ofNat_Int Int.add_sub_cancel id_eq toNat_add toNat_one rowCells_all tdiv_B tmod_B List.replicate_succ List.replicate_zero List.flatten_cons List.flatten_nil eq_self List.append_cancel_left_eq Blk.mk.injEq List.getD_cons_zero List.getD_cons_succ
end Go.Proofs.YtdhgdpcmdmgchaaGreat.Fw
