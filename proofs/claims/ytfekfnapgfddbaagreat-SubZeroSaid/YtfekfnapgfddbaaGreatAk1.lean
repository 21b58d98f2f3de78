/- The plain machine run by the kernel: the same code, slots in a tree, what is reckoned forced. -/
import Derived.Test.YtfekfnapgfddbaaGreatAm19
set_option linter.unusedVariables false
set_option linter.unusedSimpArgs false
namespace Go.Am
open Go

noncomputable section

/-! ### slots in a tree -/
inductive Tr where
  | fn (f : Nat → LV)
  | nd (v : LV) (l r : Tr)

def Tr.make : Nat → (Nat → LV) → Tr := fun d => Nat.rec (fun f => Tr.fn f) (fun _ ih f => Tr.nd (f 0) (ih fun k => f (2 * k + 1)) (ih fun k => f (2 * k + 2))) d
def Tr.get : Tr → Nat → LV := fun t => Tr.rec (fun f => f) (fun v _ _ gl gr n => Nat.rec v (fun k _ => bif Nat.beq (Nat.mod k 2) 0 then gl (Nat.div k 2) else gr (Nat.div k 2)) n) t
def Tr.put : Tr → Nat → LV → Tr := fun t => Tr.rec (fun f n x => Tr.fn (upd f n x)) (fun v l r pl pr n x => Nat.rec (Tr.nd x l r) (fun k _ => bif Nat.beq (Nat.mod k 2) 0 then Tr.nd v (pl (Nat.div k 2) x) r else Tr.nd v l (pr (Nat.div k 2) x)) n) t

theorem Tr.get_nd_zero (v : LV) (l r : Tr) : (Tr.nd v l r).get 0 = v := rfl
theorem Tr.get_nd_succ (v : LV) (l r : Tr) (k : Nat) : (Tr.nd v l r).get (k + 1) = if k % 2 = 0 then l.get (k / 2) else r.get (k / 2) := by
  show (bif Nat.beq (k % 2) 0 then l.get (k / 2) else r.get (k / 2)) = _
  by_cases h : k % 2 = 0
  · rw [h, if_pos rfl]; rfl
  · have : Nat.beq (k % 2) 0 = false := by cases e : Nat.beq (k % 2) 0 with | false => rfl | true => exact (h (Nat.eq_of_beq_eq_true e)).elim
    rw [this, if_neg h]; rfl
theorem Tr.put_nd_zero (v : LV) (l r : Tr) (x : LV) : (Tr.nd v l r).put 0 x = .nd x l r := rfl
theorem Tr.put_nd_succ (v : LV) (l r : Tr) (k : Nat) (x : LV) : (Tr.nd v l r).put (k + 1) x = if k % 2 = 0 then .nd v (l.put (k / 2) x) r else .nd v l (r.put (k / 2) x) := by
  show (bif Nat.beq (k % 2) 0 then Tr.nd v (l.put (k / 2) x) r else Tr.nd v l (r.put (k / 2) x)) = _
  by_cases h : k % 2 = 0
  · rw [h, if_pos rfl]; rfl
  · have : Nat.beq (k % 2) 0 = false := by cases e : Nat.beq (k % 2) 0 with | false => rfl | true => exact (h (Nat.eq_of_beq_eq_true e)).elim
    rw [this, if_neg h]; rfl

theorem Tr.get_make : ∀ (d : Nat) (f : Nat → LV) (n : Nat), (Tr.make d f).get n = f n
  | 0, f, n => rfl
  | d + 1, f, n => by
    show (Tr.nd (f 0) (Tr.make d fun k => f (2 * k + 1)) (Tr.make d fun k => f (2 * k + 2))).get n = _
    cases n with
    | zero => rfl
    | succ k =>
      rw [Tr.get_nd_succ, Tr.get_make, Tr.get_make]
      split
      · congr 1; omega
      · congr 1; omega

theorem Tr.get_put' : ∀ (t : Tr) (n m : Nat) (x : LV), (t.put n x).get m = if m = n then x else t.get m
  | .fn f, n, m, x => rfl
  | .nd v l r, n, m, x => by
    cases n with
    | zero =>
      rw [Tr.put_nd_zero]
      cases m with
      | zero => simp [Tr.get_nd_zero]
      | succ m => simp [Tr.get_nd_succ]
    | succ n =>
      rw [Tr.put_nd_succ]
      cases m with
      | zero => split <;> simp [Tr.get_nd_zero]
      | succ m =>
        split
        · rename_i he
          rw [Tr.get_nd_succ, Tr.get_nd_succ]
          by_cases hm : m % 2 = 0
          · rw [if_pos hm, if_pos hm, Tr.get_put' l]
            by_cases e : m = n
            · subst e; simp
            · rw [if_neg (by omega), if_neg (by omega)]
          · rw [if_neg hm, if_neg hm, if_neg (by omega)]
        · rename_i he
          rw [Tr.get_nd_succ, Tr.get_nd_succ]
          by_cases hm : m % 2 = 0
          · rw [if_pos hm, if_pos hm, if_neg (by omega)]
          · rw [if_neg hm, if_neg hm, Tr.get_put' r]
            by_cases e : m = n
            · subst e; simp
            · rw [if_neg (by omega), if_neg (by omega)]
theorem Tr.get_put (t : Tr) (n : Nat) (x : LV) : (t.put n x).get = upd t.get n x := funext fun m => t.get_put' n m x

/-! ### forcing -/
universe u
def fNat {α : Sort u} (n : Nat) (c : Nat → α) : α := Nat.rec (motive := fun _ => α) (c 0) (fun k _ => c (k + 1)) n
theorem fNat_eq {α : Sort u} (n : Nat) (c : Nat → α) : fNat n c = c n := by cases n <;> rfl
def fInt {α : Sort u} (n : Int) (c : Int → α) : α := Int.rec (motive := fun _ => α) (fun m => fNat m fun m => c (.ofNat m)) (fun m => fNat m fun m => c (.negSucc m)) n
theorem fInt_eq {α : Sort u} (n : Int) (c : Int → α) : fInt n c = c n := by cases n <;> simp [fInt, fNat_eq]

/-! ### is a store another one, and more? -/
def eqL {α : Type} (f : α → α → Bool) : List α → List α → Bool
  | [], [] => true
  | x :: xs, y :: ys => f x y && eqL f xs ys
  | _, _ => false
theorem eqL_eq {α : Type} {f : α → α → Bool} (hf : ∀ x y, f x y = true → x = y) : ∀ (xs ys : List α), eqL f xs ys = true → xs = ys
  | [], [], _ => rfl
  | x :: xs, y :: ys, h => by
    simp only [eqL, Bool.and_eq_true] at h
    rw [hf _ _ h.1, eqL_eq hf xs ys h.2]
  | [], _ :: _, h => by cases h
  | _ :: _, [], h => by cases h

def eqLV : Nat → LV → LV → Bool
  | 0, _, _ => false
  | n + 1, a, b => match a, b with
    | .int k x, .int j y => decide (k = j) && decide (x = y)
    | .bool x, .bool y => x == y
    | .str x, .str y => eqL (fun a b => a == b) x.data.toList y.data.toList
    | .agg xs, .agg ys => eqL (eqLV n) xs ys
    | .sl b xs, .sl c ys => b == c && eqL (eqLV n) xs ys
    | .slz, .slz => true
    | .nilp, .nilp => true
    | .row r z o l, .row r' z' o' l' => r == r' && z == z' && o == o' && l == l'
    | .ref r z o, .ref r' z' o' => r == r' && z == z' && o == o'
    | .mp r, .mp r' => r == r'
    | _, _ => false
theorem eqLV_eq : ∀ (n : Nat) (a b : LV), eqLV n a b = true → a = b
  | 0, _, _, h => by cases h
  | n + 1, a, b, h => by
    unfold eqLV at h
    split at h
    case h_1 => simp only [Bool.and_eq_true, decide_eq_true_eq] at h; rw [h.1, h.2]
    case h_2 => rw [eq_of_beq h]
    case h_3 x y =>
      have := eqL_eq (fun x y h => eq_of_beq h) _ _ h
      congr 1
      cases x; cases y; congr 1; exact Array.ext' this
    case h_4 => rw [eqL_eq (eqLV_eq n) _ _ h]
    case h_5 => simp only [Bool.and_eq_true] at h; rw [eq_of_beq h.1, eqL_eq (eqLV_eq n) _ _ h.2]
    case h_6 => rfl
    case h_7 => rfl
    case h_8 => simp only [Bool.and_eq_true, beq_iff_eq] at h; obtain ⟨⟨⟨rfl, rfl⟩, rfl⟩, rfl⟩ := h; rfl
    case h_9 => simp only [Bool.and_eq_true, beq_iff_eq] at h; obtain ⟨⟨rfl, rfl⟩, rfl⟩ := h; rfl
    case h_10 => simp only [beq_iff_eq] at h; subst h; rfl
    case h_11 => cases h

def eqObj (a b : Obj) : Bool :=
  match a, b with
  | .cell v, .cell u => eqLV 9 v u
  | .row E z es mu, .row E' z' es' mu' => E == E' && z == z' && mu == mu' && eqL (eqLV 9) es es'
  | .dead, .dead => true
  | .mapo es, .mapo fs => eqL (fun a b => decide (a = b)) es fs
  | _, _ => false
theorem eqObj_eq (a b : Obj) (h : eqObj a b = true) : a = b := by
  unfold eqObj at h
  split at h
  · rw [eqLV_eq _ _ _ h]
  · simp only [Bool.and_eq_true, beq_iff_eq] at h
    obtain ⟨⟨⟨rfl, rfl⟩, rfl⟩, h⟩ := h
    rw [eqL_eq (eqLV_eq 9) _ _ h]
  · rfl
  · rw [eqL_eq (fun a b h => of_decide_eq_true h) _ _ h]
  · cases h

def isExt : Store → Store → Bool
  | [], _ => true
  | x :: xs, y :: ys => eqObj x y && isExt xs ys
  | _ :: _, [] => false
theorem isExt_ex : ∀ (S S' : Store), isExt S S' = true → ∃ G, S' = S ++ G
  | [], S', _ => ⟨S', rfl⟩
  | x :: xs, [], h => by cases h
  | x :: xs, y :: ys, h => by
    simp only [isExt, Bool.and_eq_true] at h
    obtain ⟨G, hG⟩ := isExt_ex xs ys h.2
    exact ⟨G, by rw [eqObj_eq _ _ h.1, hG]; rfl⟩

/-! ### numbers, quickly -/
def ilt : Int → Int → Bool
  | .ofNat a, .ofNat b => Nat.ble (Nat.succ a) b
  | .negSucc _, .ofNat _ => true
  | .ofNat _, .negSucc _ => false
  | .negSucc a, .negSucc b => Nat.ble (Nat.succ b) a
def ieq : Int → Int → Bool
  | .ofNat a, .ofNat b => Nat.beq a b
  | .negSucc a, .negSucc b => Nat.beq a b
  | _, _ => false
theorem ble_dec (a b : Nat) : Nat.ble a b = decide (a ≤ b) := by
  cases h : Nat.ble a b with
  | true => simp [Nat.le_of_ble_eq_true h]
  | false =>
    have : ¬ a ≤ b := fun hl => by rw [Nat.ble_eq_true_of_le hl] at h; cases h
    simp [this]
theorem beq_dec (a b : Nat) : Nat.beq a b = decide (a = b) := by
  cases h : Nat.beq a b with
  | true => simp [Nat.eq_of_beq_eq_true h]
  | false => simp [Nat.ne_of_beq_eq_false h]
theorem ilt_eq : ∀ (a b : Int), ilt a b = decide (a < b)
  | .ofNat a, .ofNat b => by
    simp only [ilt, ble_dec]
    exact decide_eq_decide.2 ⟨fun h => Int.ofNat_lt.2 h, fun h => Int.ofNat_lt.1 h⟩
  | .negSucc a, .ofNat b => (decide_eq_true (Int.lt_of_lt_of_le (Int.negSucc_lt_zero a) (Int.natCast_nonneg b))).symm
  | .ofNat a, .negSucc b => (decide_eq_false fun h => by have := Int.negSucc_lt_zero b; have h2 : (0 : Int) ≤ Int.ofNat a := Int.natCast_nonneg a; omega).symm
  | .negSucc a, .negSucc b => by
    simp only [ilt, ble_dec]
    refine decide_eq_decide.2 ?_
    rw [Int.negSucc_eq, Int.negSucc_eq]
    omega
theorem ieq_eq : ∀ (a b : Int), ieq a b = decide (a = b)
  | .ofNat a, .ofNat b => by
    simp only [ieq, beq_dec]
    exact decide_eq_decide.2 ⟨fun h => congrArg _ h, fun h => Int.ofNat.inj h⟩
  | .negSucc a, .ofNat b => (decide_eq_false (by simp)).symm
  | .ofNat a, .negSucc b => (decide_eq_false (by simp)).symm
  | .negSucc a, .negSucc b => by
    simp only [ieq, beq_dec]
    exact decide_eq_decide.2 ⟨fun h => congrArg _ h, fun h => Int.negSucc.inj h⟩

def kwrap (k : IntKind) (n : Int) : Int :=
  match k with
  | .i64 => (match n with
    | .ofNat m => bif Nat.ble m 9223372036854775807 then .ofNat m else k.wrap n
    | .negSucc m => bif Nat.ble m 9223372036854775807 then .negSucc m else k.wrap n)
  | k => k.wrap n
theorem wrap_i64 (n : Int) (h1 : -9223372036854775808 ≤ n) (h2 : n ≤ 9223372036854775807) : IntKind.wrap .i64 n = n := by
  have e : IntKind.wrap .i64 n = (if n % 18446744073709551616 ≥ 9223372036854775808 then n % 18446744073709551616 - 18446744073709551616 else n % 18446744073709551616) := by
    simp [IntKind.wrap, IntKind.bits, IntKind.signed]
  rw [e]
  split <;> omega
theorem kwrap_nat (m : Nat) : (bif Nat.ble m 9223372036854775807 then Int.ofNat m else IntKind.wrap .i64 (.ofNat m)) = IntKind.wrap .i64 (.ofNat m) := by
  rw [ble_dec]
  by_cases h : m ≤ 9223372036854775807
  · rw [decide_eq_true h, wrap_i64]
    · rfl
    · have h0 : (Int.ofNat m) = (m : Int) := rfl
      rw [h0]; omega
    · have h0 : (Int.ofNat m) = (m : Int) := rfl
      rw [h0]; omega
  · rw [decide_eq_false h, cond_false]
theorem kwrap_neg (m : Nat) : (bif Nat.ble m 9223372036854775807 then Int.negSucc m else IntKind.wrap .i64 (.negSucc m)) = IntKind.wrap .i64 (.negSucc m) := by
  rw [ble_dec]
  by_cases h : m ≤ 9223372036854775807
  · rw [decide_eq_true h, wrap_i64]
    · rfl
    · rw [Int.negSucc_eq]; omega
    · rw [Int.negSucc_eq]; omega
  · rw [decide_eq_false h, cond_false]
theorem kwrap_eq (k : IntKind) (n : Int) : kwrap k n = k.wrap n := by
  cases k
  case i64 => cases n with
    | ofNat m => simp only [kwrap]; exact kwrap_nat m
    | negSucc m => simp only [kwrap]; exact kwrap_neg m
  all_goals rfl

def kcmp (op : BinOp) (a b : Int) : Option Bool :=
  match op with
  | .lss => some (ilt a b)
  | .leq => some (!ilt b a)
  | .gtr => some (ilt b a)
  | .geq => some (!ilt a b)
  | .eql => some (ieq a b)
  | .neq => some (!ieq a b)
  | _ => none
def kbin (op : BinOp) (x y : LV) : Option LV :=
  match x, y with
  | .int k a, .int k' b => (match kcmp op a b with
    | some r => bif decide (k = k') then some (.bool r) else none
    | none => match op with
      | .add => bif decide (k = k') then some (.int k (kwrap k (a + b))) else none
      | .sub => bif decide (k = k') then some (.int k (kwrap k (a - b))) else none
      | op => abin op (.int k a) (.int k' b))
  | x, y => abin op x y
theorem kbin_eq (op : BinOp) (x y : LV) : kbin op x y = abin op x y := by
  unfold kbin
  split
  · rename_i k a k' b
    by_cases hk : k = k'
    · subst hk
      have hle : (!decide (b < a)) = decide (a ≤ b) := by rw [← decide_not]; exact decide_eq_decide.2 (by omega)
      have hge : (!decide (a < b)) = decide (b ≤ a) := by rw [← decide_not]; exact decide_eq_decide.2 (by omega)
      have hne : (!decide (a = b)) = (a != b) := by by_cases e : a = b <;> simp [e, bne]
      have heq : decide (a = b) = (a == b) := by by_cases e : a = b <;> simp [e]
      cases op <;> simp only [kcmp, abin, ilt_eq, ieq_eq, kwrap_eq, hle, hge, hne, heq, decide_true, cond_true, ne_eq, not_true_eq_false, if_false] <;> rfl
    · have : (decide (k = k')) = false := by simp [hk]
      cases op <;> simp [kcmp, abin, hk]
  · rfl

/-! ### calls and operations -/
def kacallM (C : Cfg) (KW : Call) (q : Bool) (f : Nat) (args : List LV) (S : Store) : Option (LV × Store) :=
  bif f == yB then none
  else bif C.bor f || args.any hasRef then (bif q then (bif C.weak then (match acallR C KW f args S with
      | none => none
      | some (r, S') => bif isExt S S' then some (r, S') else none) else none) else acallR C KW f args S)
  else match mapO (close S) args with
    | none => none
    | some ds => match KW f ds [] with
      | none => none
      | some (r, S1) =>
        bif C.own f then match ownRes S1 S.length r with
          | none => none
          | some (r', G) => some (r', S ++ G)
        else match closeRes S1 r with
          | none => none
          | some r' => bif (args.flatMap rowsOf).isEmpty || !foreign S1 r then some (r', S) else bif q then none else some (r', freeze S (args.flatMap rowsOf))

/-- A value, forced. -/
def fV {α : Type} (v : LV) (c : LV → α) : α := match v with
  | .int k n => fInt n fun n => c (.int k n)
  | .bool b => Bool.rec (c (.bool false)) (c (.bool true)) b
  | .row r z o l => fNat r fun r => fNat o fun o => fNat l fun l => c (.row r z o l)
  | .ref r j k => fNat r fun r => fNat j fun j => fNat k fun k => c (.ref r j k)
  | v => c v
theorem fV_eq {α : Type} (v : LV) (c : LV → α) : fV v c = c v := by
  cases v <;> simp [fV, fInt_eq, fNat_eq]
  rename_i b; cases b <;> rfl

def fO (x : Option LV) (S : Store) : Option (LV × Store) := match x with
  | none => none
  | some v => fV v fun v => some (v, S)
theorem fO_eq (x : Option LV) (S : Store) : fO x S = x.map fun v => (v, S) := by cases x <;> simp [fO, fV_eq]

def kop (op : AOp) : Cfg → Call → Bool → Env → Store → Option (LV × Store) :=
  AOp.rec (motive := fun _ => Cfg → Call → Bool → Env → Store → Option (LV × Store))
    (fun x C KW q e S => some (x.ev e, S))
    (fun c a b C KW q e S => match c.ev e with
      | .bool t => some (if t then a.ev e else b.ev e, S)
      | _ => none)
    (fun x C KW q e S => if solid (x.ev e) then some (.ref S.length 0 0, S ++ [.cell (x.ev e)]) else none)
    (fun v C KW q e S => if solid v then some (.ref S.length 0 0, S ++ [.cell v]) else none)
    (fun zero parts C KW q e S => match fillZ zero (parts.map fun (o, s, x) => (o, s, x.ev e)) with
      | none => none
      | some fs => some (.agg fs, S))
    (fun E z parts C KW q e S => match closeAll S (parts.map (·.ev e)) with
      | none => none
      | some (ds, S') => if wellSized z ds && !(q && !((parts.map (·.ev e)).flatMap rowsOf).isEmpty) then some (.row S.length z 0 ds.length, S' ++ [.row E z ds true]) else none)
    (fun agg sz x C KW q e S => match x.ev e with
      | .ref r j k => match S[r]? with
        | some (.cell v) => if j = 0 then (sub agg sz k v).map fun u => (u, S) else none
        | some (.row _ _ es _) => match es[j]? with
          | some v => (sub agg sz k v).map fun u => (u, S)
          | none => none
        | _ => none
      | .imm v k => (sub agg sz k v).map fun u => (u, S)
      | _ => none)
    (fun sz x v C KW q e S => match x.ev e with
      | .ref r j k => match S[r]? with
        | some (.cell u) => if j = 0 ∧ (v.ev e).leaves.length = sz ∧ solid (v.ev e) = true then (splice k u (v.ev e)).map fun u' => (.undef, S.set r (.cell u')) else none
        | some (.row E z es true) => match es[j]?, close S (v.ev e) with
          | some u, some d => if d.leaves.length = sz ∧ rowsOf (v.ev e) = [] then (splice k u d).map fun u' => (.undef, S.set r (.row E z (es.set j u') true)) else none
          | _, _ => none
        | _ => none
      | _ => none)
    (fun x C KW q e S => match x.ev e with
      | .ref r j k => some (.ref r j k, S)
      | .imm v k => some (.imm v k, S)
      | _ => none)
    (fun op x y C KW q e S => fO (kbin op (x.ev e) (y.ev e)) S)
    (fun neg x y C KW q e S => match x.ev e, y.ev e with
      | .bool a, .bool b => some (.bool (if neg then !(a == b) else a == b), S)
      | _, _ => none)
    (fun neg x C KW q e S => match x.ev e with
      | .nilp => some (.bool (!neg), S)
      | .ref _ _ _ => some (.bool neg, S)
      | .imm _ _ => some (.bool neg, S)
      | _ => none)
    (fun neg x C KW q e S => match x.ev e with
      | .sl n _ => some (.bool (if neg then !n else n), S)
      | .row _ _ _ _ => some (.bool neg, S)
      | _ => none)
    (fun op x C KW q e S => fO (aun op (x.ev e)) S)
    (fun k x C KW q e S => match x.ev e with
      | .int _ n => fV (.int k (kwrap k n)) fun v => some (v, S)
      | _ => none)
    (fun x C KW q e S => match elems S (x.ev e) with
      | none => none
      | some es => (mapO byteOf es).map fun l => (.str (strOfNums l), S))
    (fun f first caps C KW q e S => some (.fn f (first.map (·.ev e)) (caps.map (·.ev e)), S))
    (fun E z b zero len C KW q e S => match len.ev e with
      | .int _ n => if 0 ≤ n ∧ n ≤ 4294967296 then some (.row S.length z 0 n.toNat, S ++ [.row E z (List.replicate n.toNat zero) true]) else none
      | _ => none)
    (fun z x lo hi mx C KW q e S => (aslice z (x.ev e) (lo.map (·.ev e)) (hi.map (·.ev e)) (mx.map (·.ev e))).map fun v => (v, S))
    (fun off x C KW q e S => match x.ev e with
      | .ref r j k => some (.ref r j (k + off), S)
      | .imm v k => some (.imm v (k + off), S)
      | _ => none)
    (fun agg sz off x C KW q e S => match x.ev e with
      | .agg fs => (sub agg sz off (.agg fs)).map fun u => (u, S)
      | _ => none)
    (fun z x i C KW q e S => match i.ev e with
      | .int _ n => (aidx z (x.ev e) n).map fun v => (v, S)
      | _ => none)
    (fun n z x i C KW q e S => match x.ev e, i.ev e with
      | .ref r j k, .int _ m => if 0 ≤ m ∧ m < n then some (.ref r j (k + m.toNat * z), S) else none
      | .imm v k, .int _ m => if 0 ≤ m ∧ m < n then some (.imm v (k + m.toNat * z), S) else none
      | _, _ => none)
    (fun x i C KW q e S => match x.ev e, i.ev e with
      | .str s, .int _ n => if 0 ≤ n then (match s[n.toNat]? with | some b => some (.int .u8 b.toNat, S) | none => none) else none
      | _, _ => none)
    (fun x i C KW q e S => match x.ev e with
      | .tup vs => match vs[i]? with
        | some v => some (v, S)
        | none => none
      | _ => none)
    (fun x C KW q e S => match lenOf S (x.ev e) with
      | none => none
      | some n => fNat n fun n => some (.int .i64 (.ofNat n), S))
    (fun x C KW q e S => match x.ev e with
      | .str s => some (.int .i64 s.size, S)
      | _ => none)
    (fun E z b x y C KW q e S => match elems S (y.ev e) with
      | none => none
      | some ys => if wellSized z ys then aapp E z S (x.ev e) ys else none)
    (fun x ys C KW q e S => fO (amax (x.ev e) (ys.map (·.ev e))) S)
    (fun x ys C KW q e S => fO (amin (x.ev e) (ys.map (·.ev e))) S)
    (fun E z x y C KW q e S => match x.ev e, elems S (y.ev e) with
      | .row r _ off len, some ys => match S[r]? with
        | some (.row E' z' es true) =>
          if off + len ≤ es.length ∧ E' = E ∧ z' = z ∧ wellSized z ys then
            some (.int .i64 (min ys.length len : Nat), S.set r (.row E z (es.take off ++ ys.take len ++ es.drop (off + min ys.length len)) true))
          else none
        | _ => none
      | .sl true [], some ys => if wellSized z ys then some (.int .i64 0, S) else none
      | _, _ => none)
    (fun E zero x C KW q e S => match x.ev e with
      | .row r _ off len => match S[r]? with
        | some (.row E' z es true) =>
          if off + len ≤ es.length ∧ E' = E ∧ zero.leaves.length = z then
            some (.undef, S.set r (.row E z (es.take off ++ List.replicate len zero ++ es.drop (off + len)) true))
          else none
        | _ => none
      | .sl true [] => some (.undef, S)
      | _ => none)
    (fun f args C KW q e S => match f.ev e with
      | .fn f first caps => kacallM C KW q f (first ++ args.map (·.ev e) ++ caps) S
      | .yld r => if q then none else KW yB (.yld r :: args.map (·.ev e)) S
      | _ => none)
    (fun C KW q e S => some (.mp S.length, S ++ [.mapo []]))
    (fun x k v C KW q e S => match x.ev e, k.ev e, v.ev e with
      | .mp r, .int .i64 a, .int .i64 b => match S[r]? with
        | some (.mapo es) => some (.undef, S.set r (.mapo (mset es a b)))
        | _ => none
      | _, _, _ => none)
    (fun x k ok C KW q e S => match x.ev e, k.ev e with
      | .mp r, .int .i64 a => match S[r]? with
        | some (.mapo es) => some (if ok then .tup [.int .i64 ((mget es a).getD 0), .bool (mget es a).isSome] else .int .i64 ((mget es a).getD 0), S)
        | _ => none
      | _, _ => none)
    (fun C KW q e S => none)
    (fun r op _ C KW q e S => match rsv r e op, S[r]? with
      | some (v, ob), some .dead => some (v, S.set r ob)
      | _, _ => none)
    op

/-- A value, its outside forced. -/
def fW {α : Type} (v : LV) (c : LV → α) : α := match v with
  | .int k n => c (.int k n)
  | .bool b => Bool.rec (c (.bool false)) (c (.bool true)) b
  | .row r z o l => fNat r fun r => fNat o fun o => fNat l fun l => c (.row r z o l)
  | .ref r j k => fNat r fun r => fNat j fun j => fNat k fun k => c (.ref r j k)
  | .sl b es => c (.sl b es)
  | .agg es => c (.agg es)
  | .tup es => c (.tup es)
  | .str t => c (.str t)
  | .fn f a b => c (.fn f a b)
  | .imm v k => fNat k fun k => c (.imm v k)
  | v => c v
theorem fW_eq {α : Type} (v : LV) (c : LV → α) : fW v c = c v := by
  cases v <;> simp [fW, fNat_eq]
  rename_i b; cases b <;> rfl

def guardE (e : Env) (guard : Option (Nat × Bool)) : Option Bool :=
  match guard with
  | none => some true
  | some (g, want) => match e g with
    | .bool b => some (b == want)
    | .tup [] => some false
    | _ => none

/-- One operation. -/
def kop1 (C : Cfg) (KW : Call) (q : Bool) (nt : Nat) (o : AOper) (t : Tr) (S : Store) : Option (Tr × Store) :=
  match o with
  | ⟨dst, guard, op⟩ =>
    match guardE t.get guard with
    | none => none
    | some false => (match dst with
      | none => some (t, S)
      | some d => bif Nat.blt d nt then some (t.put d (.tup []), S) else none)
    | some true => match kop op C KW q t.get S with
      | none => none
      | some (v, S') => match dst with
        | none => some (t, S')
        | some d => bif Nat.blt d nt then fW v fun v => some (t.put d v, S') else none

def kops (C : Cfg) (KW : Call) (q : Bool) (nt : Nat) (os : List AOper) : Tr → Store → Option (Tr × Store) :=
  List.rec (motive := fun _ => Tr → Store → Option (Tr × Store)) (fun t S => some (t, S))
    (fun o _ ih t S => match kop1 C KW q nt o t S with
      | none => none
      | some (t', S') => ih t' S') os

abbrev K3 := Option (Ex × Tr × Store)
def kloop (body : Tr → Store → K3) (k : Nat) : Tr → Store → K3 :=
  Nat.rec (motive := fun _ => Tr → Store → K3) (fun _ _ => none)
    (fun _ ih t S => match body t S with
      | some (.nrm, t', S') => ih t' S'
      | r => r) k

def kcode (C : Cfg) (KW : Call) (K nt : Nat) (c : AC) : Tr → Store → K3 :=
  AC.rec (motive := fun _ => Tr → Store → K3)
    (fun t S => some (.nrm, t, S))
    (fun ops pairs q t S => match kops { C with weak := true } KW q nt ops t S with
      | none => none
      | some (t', S') => bif apartOk t'.get pairs then some (.nrm, t', S') else none)
    (fun k ops pairs q t S => match kops { C with weak := false } KW q nt (ops.map (AOper.shift S.length)) t (S ++ List.replicate k .dead) with
      | none => none
      | some (t', S') => bif apartOk t'.get pairs then some (.nrm, t', S') else none)
    (fun _ _ iha ihb t S => match iha t S with
      | some (.nrm, t', S') => ihb t' S'
      | r => r)
    (fun c _ _ iha ihb t S => match c.ev t.get with
      | .bool b => Bool.rec (ihb t S) (iha t S) b
      | _ => none)
    (fun id _ iha t S => match iha t S with
      | some (.exit j, t', S') => bif j == id then some (.nrm, t', S') else some (.exit j, t', S')
      | r => r)
    (fun _ iha t S => kloop iha K t S)
    (fun id t S => some (.exit id, t, S))
    (fun t S => some (.ret, t, S))
    (fun _ iha t S => iha t S)
    (fun f ps asg body _ _ t S => match f.ev t.get with
      | .fn g first caps => bif g == yB then none else match KW g (first ++ [.yld S.length] ++ caps) (S ++ [.lp .ready nt t.get ps asg body]) with
        | none => none
        | some (_, S') => match S'[S.length]? with
          | some (.lp .ready _ _ _ _ _) => some (.nrm, t, S'.set S.length .dead)
          | some (.lp (.done x) _ _ _ _ _) => some (x, t, S'.set S.length .dead)
          | _ => none
      | _ => none) c

def kround (C : Cfg) (KW : Call) (K : Nat) (args : List LV) (S : Store) : Option (LV × Store) :=
  match args with
  | .yld r :: xs => match S[r]? with
    | some (.lp .ready nt e ps asg body) =>
      bif xs.length == ps.length && ps.all (fun p => Nat.blt p nt) then
        match kcode C KW K nt asg (Tr.make (nt.log2 + 1) (putL ps xs e)) S with
        | some (.nrm, t1, S1) => match S1[r]? with
          | some (.lp .ready nt1 f1 p1 a1 b1) => match kcode C KW K nt body t1 (S1.set r (.lp .busy nt1 f1 p1 a1 b1)) with
            | some (x, _, S2) => match S2[r]? with
              | some (.lp .busy nt2 f2 p2 a2 b2) => some (.bool (decide (x = .nrm)), S2.set r (.lp (if x = .nrm then .ready else .done x) nt2 f2 p2 a2 b2))
              | _ => none
            | none => none
          | _ => none
        | _ => none
      else none
    | _ => none
  | _ => none

def kbody (C : Cfg) (KW : Call) (K : Nat) (f : AF) (args : List LV) (S : Store) : Option (LV × Store) :=
  match f with
  | ⟨nt, res, code⟩ =>
    bif Nat.ble args.length nt then
      match kcode C KW K nt code (Tr.make (nt.log2 + 1) fun t => args.getD t .undef) S with
      | some (.nrm, t, S') => (aresults res t.get S').map fun v => (v, S')
      | some (.ret, t, S') => (aresults res t.get S').map fun v => (v, S')
      | _ => none
    else none

/-- The kernel's run: n calls deep, loops of K rounds at most. -/
def kcall (C : Cfg) (T : Nat → Option Fun) (K : Nat) (n : Nat) : Call :=
  Nat.rec (motive := fun _ => Call) (fun _ _ _ => none)
    (fun _ ih f args S => match T f with
      | some (.code a) => kbody C ih K a args S
      | some (.ext g) => g args S
      | none => bif f == yB then kround C ih K args S else none) n
end

/-! ### what the kernel runs is the plain machine -/
theorem kacallM_le {C : Cfg} {KW W : Call} (h : CLe KW W) {q : Bool} {f : Nat} {args : List LV} {S : Store} {r : LV × Store} (hc : kacallM C KW q f args S = some r) : acallM C W q f args S = some r := by
  unfold kacallM at hc
  unfold acallM
  by_cases hy : f = yB
  · rw [hy] at hc; simp at hc
  · rw [if_neg hy]
    have : (f == yB) = false := by simp [hy]
    rw [this] at hc
    simp only [cond_false] at hc
    cases hb : (C.bor f || args.any hasRef) with
    | true =>
      rw [hb] at hc
      simp only [cond_true] at hc
      rw [if_pos rfl]
      cases q with
      | true =>
        simp only [cond_true] at hc
        rw [if_pos rfl]
        cases hw : C.weak with
        | true =>
          rw [hw] at hc
          simp only [cond_true] at hc
          rw [if_pos rfl]
          split at hc
          · cases hc
          · rename_i r1 S1 h1
            rw [acallR_mono h h1]
            cases he : isExt S S1 with
            | true => rw [he] at hc; cases hc; simp only; rw [if_pos (isExt_ex _ _ he)]
            | false => rw [he] at hc; cases hc
        | false => rw [hw] at hc; cases hc
      | false =>
        simp only [cond_false] at hc
        rw [if_neg (by simp)]
        exact acallR_mono h hc
    | false =>
      rw [hb] at hc
      simp only [cond_false] at hc
      rw [if_neg (by simp)]
      split at hc
      · cases hc
      · rename_i ds hds
        simp only [hds]
        split at hc
        · cases hc
        · rename_i r1 S1 h1
          rw [h _ _ _ _ h1]
          simp only
          cases ho : C.own f with
          | true =>
            rw [ho] at hc
            simp only [cond_true] at hc
            rw [if_pos rfl]; exact hc
          | false =>
            rw [ho] at hc
            simp only [cond_false] at hc
            rw [if_neg (by simp)]
            split at hc
            · cases hc
            · rename_i r' hr'
              simp only [hr']
              cases hx : ((args.flatMap rowsOf).isEmpty || !foreign S1 r1) with
              | true => rw [hx] at hc; rw [if_pos rfl]; exact hc
              | false =>
                rw [hx] at hc
                rw [if_neg (by simp)]
                cases q with
                | true => cases hc
                | false => exact hc

theorem kop_le {C : Cfg} {KW W : Call} (h : CLe KW W) {q : Bool} {e : Env} {S : Store} {op : AOp} {r : LV × Store} (hc : kop op C KW q e S = some r) : aop C W q e S op = some r := by
  cases op with
  | call f args =>
    simp only [kop] at hc
    simp only [aop]
    split at hc
    · rename_i hf; simp only [hf]; exact kacallM_le h hc
    · rename_i hf
      simp only [hf]
      split at hc
      · cases hc
      · rename_i hq; rw [if_neg hq]; exact h _ _ _ _ hc
    · cases hc
  | bin op x y => have hc : fO (kbin op (x.ev e) (y.ev e)) S = some r := hc; rw [fO_eq, kbin_eq] at hc; exact hc
  | un op x => have hc : fO (aun op (x.ev e)) S = some r := hc; rw [fO_eq] at hc; exact hc
  | mx x ys => have hc : fO (amax (x.ev e) (ys.map (·.ev e))) S = some r := hc; rw [fO_eq] at hc; exact hc
  | mn x ys => have hc : fO (amin (x.ev e) (ys.map (·.ev e))) S = some r := hc; rw [fO_eq] at hc; exact hc
  | len x =>
    simp only [kop] at hc
    simp only [aop]
    split at hc
    · cases hc
    · rename_i n hn; rw [fNat_eq] at hc; rw [hn]; exact hc
  | conv k x =>
    simp only [kop] at hc
    simp only [aop]
    split at hc
    · rename_i hx; rw [fV_eq, kwrap_eq] at hc; simp only [hx]; exact hc
    · cases hc
  | _ => exact hc

theorem aop1_g {C : Cfg} {W : Call} {q : Bool} {nt : Nat} (dst : Option Nat) (guard : Option (Nat × Bool)) (op : AOp) (e : Env) (S : Store) : aop1 C W q nt ⟨dst, guard, op⟩ e S = (match guardE e guard with
    | none => none
    | some false => (match dst with
      | none => some (e, S)
      | some d => if d < nt then some (upd e d (.tup []), S) else none)
    | some true => match aop C W q e S op with
      | none => none
      | some (v, S') => match dst with
        | none => some (e, S')
        | some d => if d < nt then some (upd e d v, S') else none) := by
  unfold aop1 guardE
  rfl

theorem kop1_le {C : Cfg} {KW W : Call} (h : CLe KW W) {q : Bool} {nt : Nat} {o : AOper} {t t' : Tr} {S S' : Store} (hc : kop1 C KW q nt o t S = some (t', S')) : aop1 C W q nt o t.get S = some (t'.get, S') := by
  obtain ⟨dst, guard, op⟩ := o
  simp only [kop1] at hc
  rw [aop1_g]
  split at hc
  · cases hc
  · rename_i hg
    cases dst with
    | none => cases hc; rfl
    | some d =>
      simp only at hc ⊢
      cases hb : Nat.blt d nt with
      | true =>
        rw [hb] at hc
        cases hc
        rw [if_pos (by simp [Nat.blt] at hb; omega), Tr.get_put]
      | false => rw [hb] at hc; cases hc
  · rename_i hg
    split at hc
    · cases hc
    · rename_i v S1 hop
      rw [kop_le h hop]
      cases dst with
      | none => cases hc; rfl
      | some d =>
        simp only at hc ⊢
        cases hb : Nat.blt d nt with
        | true =>
          rw [hb] at hc
          simp only [cond_true, fW_eq] at hc
          cases hc
          rw [if_pos (by simp [Nat.blt] at hb; omega), Tr.get_put]
        | false => rw [hb] at hc; cases hc

theorem kops_le {C : Cfg} {KW W : Call} (h : CLe KW W) {q : Bool} {nt : Nat} : ∀ (os : List AOper) {t t' : Tr} {S S' : Store}, kops C KW q nt os t S = some (t', S') → aops C W q nt os t.get S = some (t'.get, S')
  | [], t, t', S, S', hc => by cases hc; rfl
  | o :: os, t, t', S, S', hc => by
    have hc : (match kop1 C KW q nt o t S with
      | none => none
      | some (t', S') => kops C KW q nt os t' S') = some (t', S') := hc
    simp only [aops]
    split at hc
    · cases hc
    · rename_i t1 S1 h1
      rw [kop1_le h h1]
      exact kops_le h os hc

theorem kloop_le {kb : Tr → Store → K3} {body : Env → Store → R3} (hb : ∀ t S x t' S', kb t S = some (x, t', S') → body t.get S = some (x, t'.get, S')) : ∀ (k : Nat) {t t' : Tr} {S S' : Store} {x : Ex},
    kloop kb k t S = some (x, t', S') → aloop body k t.get S = some (x, t'.get, S')
  | 0, t, t', S, S', x, hc => by cases hc
  | k + 1, t, t', S, S', x, hc => by
    have hc : (match kb t S with
      | some (.nrm, t', S') => kloop kb k t' S'
      | r => r) = some (x, t', S') := hc
    simp only [aloop]
    split at hc
    · rename_i t1 S1 h1
      rw [hb _ _ _ _ _ h1]
      exact kloop_le hb k hc
    · rename_i hne
      rw [hb _ _ _ _ _ hc]
      cases x with
      | nrm => exact (hne _ _ hc).elim
      | exit id => rfl
      | ret => rfl

theorem kcode_le {C : Cfg} {KW W : Call} (h : CLe KW W) {K nt : Nat} : ∀ (c : AC) {t t' : Tr} {S S' : Store} {x : Ex}, kcode C KW K nt c t S = some (x, t', S') → acode C W nt c t.get S = some (x, t'.get, S') := by
  intro c
  induction c with
  | skip => intro t t' S S' x hc; cases hc; rfl
  | reg ops ps q =>
    intro t t' S S' x hc
    have hc : (match kops { C with weak := true } KW q nt ops t S with
      | none => none
      | some (t', S') => bif apartOk t'.get ps then some (.nrm, t', S') else none) = some (x, t', S') := hc
    simp only [acode]
    split at hc
    · cases hc
    · rename_i t1 S1 h1
      rw [kops_le h _ h1]
      simp only
      cases ha : apartOk t1.get ps with
      | true => rw [ha] at hc; cases hc; rfl
      | false => rw [ha] at hc; cases hc
  | rgv k ops ps q =>
    intro t t' S S' x hc
    have hc : (match kops { C with weak := false } KW q nt (ops.map (AOper.shift S.length)) t (S ++ List.replicate k .dead) with
      | none => none
      | some (t', S') => bif apartOk t'.get ps then some (.nrm, t', S') else none) = some (x, t', S') := hc
    simp only [acode]
    split at hc
    · cases hc
    · rename_i t1 S1 h1
      rw [kops_le h _ h1]
      simp only
      cases ha : apartOk t1.get ps with
      | true => rw [ha] at hc; cases hc; rfl
      | false => rw [ha] at hc; cases hc
  | seq a b iha ihb =>
    intro t t' S S' x hc
    have hc : (match kcode C KW K nt a t S with
      | some (.nrm, t', S') => kcode C KW K nt b t' S'
      | r => r) = some (x, t', S') := hc
    simp only [acode]
    split at hc
    · rename_i t1 S1 h1
      rw [iha h1]
      exact ihb hc
    · rename_i hne
      rw [iha hc]
      cases x with
      | nrm => exact (hne _ _ hc).elim
      | exit id => rfl
      | ret => rfl
  | cond c a b iha ihb =>
    intro t t' S S' x hc
    have hc : (match c.ev t.get with
      | .bool q => Bool.rec (kcode C KW K nt b t S) (kcode C KW K nt a t S) q
      | _ => none) = some (x, t', S') := hc
    simp only [acode]
    split at hc
    · rename_i q hq
      simp only [hq]
      cases q with
      | true => exact iha hc
      | false => exact ihb hc
    · cases hc
  | block id a iha =>
    intro t t' S S' x hc
    have hc : (match kcode C KW K nt a t S with
      | some (.exit j, t', S') => bif j == id then some (.nrm, t', S') else some (.exit j, t', S')
      | r => r) = some (x, t', S') := hc
    simp only [acode]
    split at hc
    · rename_i j t1 S1 h1
      rw [iha h1]
      simp only
      by_cases hj : j = id
      · subst hj; simp at hc; obtain ⟨rfl, rfl, rfl⟩ := hc; simp
      · have : (j == id) = false := by simp [hj]
        rw [this] at hc
        rw [if_neg hj]
        cases hc; rfl
    · rename_i hne
      rw [iha hc]
      cases x with
      | nrm => rfl
      | exit j => exact (hne _ _ _ hc).elim
      | ret => rfl
  | loop a iha =>
    intro t t' S S' x hc
    simp only [acode]
    exact loopW_of (kloop_le (fun t S x t' S' h => iha h) K hc)
  | exit id => intro t t' S S' x hc; cases hc; rfl
  | ret => intro t t' S S' x hc; cases hc; rfl
  | scope a iha => intro t t' S S' x hc; exact iha hc
  | rng f ps a b _ _ =>
    intro t t' S S' x hc
    have hc : (match f.ev t.get with
      | .fn g first caps => bif g == yB then none else match KW g (first ++ [.yld S.length] ++ caps) (S ++ [.lp .ready nt t.get ps a b]) with
        | none => none
        | some (_, S') => match S'[S.length]? with
          | some (.lp .ready _ _ _ _ _) => some (.nrm, t, S'.set S.length .dead)
          | some (.lp (.done x) _ _ _ _ _) => some (x, t, S'.set S.length .dead)
          | _ => none
      | _ => none) = some (x, t', S') := hc
    simp only [acode]
    split at hc
    · rename_i g first caps hf
      simp only [hf]
      by_cases hg : g = yB
      · rw [hg] at hc; simp at hc
      · have : (g == yB) = false := by simp [hg]
        rw [this] at hc
        rw [if_neg hg]
        simp only [cond_false] at hc
        split at hc
        · cases hc
        · rename_i v S1 h1
          rw [h _ _ _ _ h1]
          simp only
          split at hc
          · rename_i h2; simp only [h2]; cases hc; rfl
          · rename_i h2; simp only [h2]; cases hc; rfl
          · cases hc
    · cases hc

theorem kround_le {C : Cfg} {KW W : Call} (h : CLe KW W) {K : Nat} {args : List LV} {S : Store} {r : LV × Store} (hc : kround C KW K args S = some r) : around C W args S = some r := by
  have mk : ∀ (d : Nat) (f : Nat → LV), (Tr.make d f).get = f := fun d f => funext (Tr.get_make d f)
  unfold kround at hc
  unfold around
  split at hc
  · rename_i k xs
    split at hc
    · rename_i nt e ps asg body hS
      simp only [hS]
      cases hb : (xs.length == ps.length && ps.all fun p => Nat.blt p nt) with
      | false => rw [hb] at hc; cases hc
      | true =>
        rw [hb] at hc
        simp only [cond_true] at hc
        simp only [Bool.and_eq_true, beq_iff_eq, List.all_eq_true] at hb
        rw [if_pos ⟨hb.1, by simp only [List.all_eq_true, decide_eq_true_eq]; intro p hp; have := hb.2 p hp; simp [Nat.blt] at this; omega⟩]
        split at hc
        · rename_i t1 S1 h1
          have h1' := kcode_le h _ h1
          rw [mk] at h1'
          rw [h1']
          simp only
          split at hc
          · rename_i h2
            simp only [h2]
            split at hc
            · rename_i h3
              rw [kcode_le h _ h3]
              exact hc
            · cases hc
          · cases hc
        · cases hc
    · cases hc
  · cases hc

theorem kbody_le {C : Cfg} {KW W : Call} (h : CLe KW W) {K : Nat} {f : AF} {args : List LV} {S : Store} {r : LV × Store} (hc : kbody C KW K f args S = some r) : abody C W f args S = some r := by
  obtain ⟨nt, res, code⟩ := f
  have mk : ∀ (d : Nat) (f : Nat → LV), (Tr.make d f).get = f := fun d f => funext (Tr.get_make d f)
  simp only [kbody] at hc
  unfold abody
  simp only
  cases hb : Nat.ble args.length nt with
  | false => rw [hb] at hc; cases hc
  | true =>
    rw [hb] at hc
    rw [if_pos (Nat.le_of_ble_eq_true hb)]
    simp only [cond_true] at hc
    split at hc
    · rename_i t S1 h1
      have h1' := kcode_le h _ h1
      rw [mk] at h1'
      rw [h1']; exact hc
    · rename_i t S1 h1
      have h1' := kcode_le h _ h1
      rw [mk] at h1'
      rw [h1']; exact hc
    · cases hc

theorem kcall_le {C : Cfg} {T : Nat → Option Fun} {K : Nat} : ∀ n, CLe (kcall C T K n) (acall C T n)
  | 0 => fun f args S r h => by cases h
  | n + 1 => fun f args S r h => by
    have h : (match T f with
      | some (.code a) => kbody C (kcall C T K n) K a args S
      | some (.ext g) => g args S
      | none => bif f == yB then kround C (kcall C T K n) K args S else none) = some r := h
    simp only [acall]
    split at h
    · rename_i a ha; simp only [ha]; exact kbody_le (kcall_le n) h
    · rename_i g hg; simp only [hg]; exact h
    · rename_i hn
      simp only [hn]
      by_cases hy : f = yB
      · rw [if_pos hy]; rw [hy] at h; simp at h; exact kround_le (kcall_le n) h
      · have : (f == yB) = false := by simp [hy]
        rw [this] at h; cases h

/-- What the kernel has run, W says. -/
theorem W_of_kcall {C : Cfg} {T : Nat → Option Fun} (K n : Nat) {f : Nat} {args : List LV} {S : Store} {r : LV × Store} (h : kcall C T K n f args S = some r) : W C T f args S = some r := W_of_acall (kcall_le n f args S r h)

end Go.Am
