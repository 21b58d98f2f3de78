/- The operations that only reckon: what the plain machine says of them the model does. -/
import Derived.Test.YtfekfnapgfddbaaGreatAm3
import Derived.Laws.Shifts
set_option linter.unusedVariables false
set_option linter.unusedSimpArgs false
set_option linter.unusedSectionVars false
namespace Go.Am
open Go Go.RowKit
variable [HasProg]

theorem V.int_inv {w : World} {X : Nat → Prop} {m : MM} {k : IntKind} {n : Int} {u : Value} (h : V w X m (.int k n) u) : u = .int k n := by cases h; rfl
theorem V.bool_inv {w : World} {X : Nat → Prop} {m : MM} {b : Bool} {u : Value} (h : V w X m (.bool b) u) : u = .bool b := by cases h; rfl
theorem V.str_inv {w : World} {X : Nat → Prop} {m : MM} {s : ByteArray} {u : Value} (h : V w X m (.str s) u) : u = .string s := by cases h; rfl

/-- What an operation comes to. -/
def Out (G : Prop) (F : Nat → Prop) (m : MM) (S : Store) (w : World) (v : LV) (S' : Store) (r : Result Next) : Prop :=
  ∃ n w' m', r = .ok n w' ∧ ((∃ u, n = .value u ∧ V w' (XX F m' S') m' v u) ∨ (n = .skip ∧ v = .undef)) ∧ Ev F m S w m' S' w' ∧ Kp G w w'

theorem Out.val {G : Prop} {F : Nat → Prop} {m : MM} {S : Store} {w : World} {v : LV} {r : Result Next} {u : Value} (h : Rel w F m S) (hr : r = .ok (.value u) w) (hv : V w (XX F m S) m v u) : Out G F m S w v S r :=
  ⟨_, w, m, hr, .inl ⟨u, rfl, hv⟩, .refl h, fun _ _ _ => rfl⟩

section
variable {P : Program} {w : World} {X : Nat → Prop} {m : MM}

theorem run_eqGuard_int (op : BinOp) (t : TypeId) (x y : Operand) (k k' : IntKind) (a b : Int) : (eqGuard op t x y (.int k a) (.int k' b)).run P w = .ok () w := by
  unfold eqGuard
  cases op <;> simp

theorem run_eqGuard_str (op : BinOp) (t : TypeId) (x y : Operand) (a b : ByteArray) : (eqGuard op t x y (.string a) (.string b)).run P w = .ok () w := by
  unfold eqGuard
  cases op <;> simp

theorem run_binOp_int (op : BinOp) (t : TypeId) (k k' : IntKind) (a b : Int) {v : LV} (h : abin op (.int k a) (.int k' b) = some v) :
    ∃ u, (binOp op t (.int k a) (.int k' b)).run P w = .ok u w ∧ V w X m v u := by
  cases op <;> simp only [abin] at h
  case shl =>
    split at h
    · cases h
    · rename_i hb
      cases h
      exact ⟨_, by simp [binOp, Op.shift, hb], .int⟩
  case shr =>
    split at h
    · cases h
    · rename_i hb
      cases h
      exact ⟨_, by simp [binOp, Op.shift, hb], .int⟩
  all_goals
    split at h
    · cases h
    · rename_i hk
      have hk : k = k' := Classical.not_not.1 hk
      subst hk
      first
        | (simp only [intBits, Option.map_some] at h; cases h; refine ⟨_, ?_, .int⟩; simp only [binOp, ne_eq, not_true_eq_false, if_false]; rfl)
        | (cases h; exact ⟨_, by simp [binOp, Op.intArith], .int⟩)
        | (cases h; exact ⟨_, by simp [binOp, Op.intCmp], .bool⟩)
        | (split at h
           · cases h
           · rename_i hb; cases h; exact ⟨_, by simp [binOp, Op.intDiv, hb], .int⟩)

theorem run_binOp_str (op : BinOp) (t : TypeId) (a b : ByteArray) {v : LV} (h : abin op (.str a) (.str b) = some v) :
    ∃ u, (binOp op t (.string a) (.string b)).run P w = .ok u w ∧ V w X m v u := by
  cases op <;> simp only [abin] at h
  case add =>
    split at h
    · rename_i hb
      cases h
      refine ⟨_, ?_, .str⟩
      have h1 : ¬ (((a.size + b.size : Nat) : Int) > IntKind.i64.max) := by
        show ¬ (((a.size + b.size : Nat) : Int) > 9223372036854775807)
        omega
      simp only [binOp, Op.stringOp, Sem.run_ite, if_neg h1, Sem.run_pure]
    · cases h
  all_goals first | (cases h; done) | (cases h; exact ⟨_, by simp [binOp, Op.stringOp], .bool⟩)

theorem sim_bin (op : BinOp) (t : TypeId) (x y : Operand) {lx ly v : LV} {ux uy : Value} (hx : V w X m lx ux) (hy : V w X m ly uy) (h : abin op lx ly = some v) :
    ∃ u, (do eqGuard op t x y ux uy; binOp op t ux uy : Sem Value).run P w = .ok u w ∧ V w X m v u := by
  cases lx <;> cases ly <;> first
    | (simp [abin] at h; done)
    | skip
  · obtain rfl := hx.int_inv
    obtain rfl := hy.int_inv
    obtain ⟨u, hr, hv⟩ := run_binOp_int (P := P) (w := w) (X := X) (m := m) op t _ _ _ _ h
    exact ⟨u, by simp [run_eqGuard_int, hr], hv⟩
  · obtain rfl := hx.str_inv
    obtain rfl := hy.str_inv
    obtain ⟨u, hr, hv⟩ := run_binOp_str (P := P) (w := w) (X := X) (m := m) op t _ _ h
    exact ⟨u, by simp [run_eqGuard_str, hr], hv⟩

theorem sim_un (op : UnOp) {lx v : LV} {ux : Value} (hx : V w X m lx ux) (h : aun op lx = some v) : ∃ u, (Op.unary op ux).run P w = .ok u w ∧ V w X m v u := by
  cases lx <;> try (simp [aun] at h; done)
  · obtain rfl := hx.int_inv
    cases op <;> simp only [aun] at h
    · cases h; exact ⟨_, by simp [Op.unary, Op.intArith], .int⟩
    · simp only [intBits, Option.map_some] at h
      cases h; exact ⟨_, by simp [Op.unary, Op.intBits], .int⟩
    · cases h
    · cases h
  · obtain rfl := hx.bool_inv
    cases op <;> simp only [aun] at h <;> cases h
    exact ⟨_, by simp [Op.unary], .bool⟩

theorem run_equal_bool {t : TypeId} (a b : Bool) (ht : P.underlying t = some .bool) : (Op.equal t (.bool a) (.bool b)).run P w = .ok (a == b) w := by
  show (Op.equalIn (9999 + 1) t (.bool a) (.bool b)).run P w = _
  rw [Op.equalIn]
  simp only [Sem.run_bind, run_underlying ht, Result.andThen_ok, Sem.run_pure]
theorem run_equal_ptr {t e : TypeId} (p : Option Addr) (ht : P.underlying t = some (.pointer e)) : (Op.equal t (.pointer p) (.pointer none)).run P w = .ok p.isNone w := by
  show (Op.equalIn (9999 + 1) t (.pointer p) (.pointer none)).run P w = _
  rw [Op.equalIn]
  cases p <;> simp only [Sem.run_bind, run_underlying ht, Result.andThen_ok, Sem.run_pure, Option.isNone]
theorem run_equal_sl {t e : TypeId} (p : Option Addr) (n c : Nat) (ht : P.underlying t = some (.slice e)) : (Op.equal t (.slice p n c) (.slice none 0 0)).run P w = .ok p.isNone w := by
  show (Op.equalIn (9999 + 1) t (.slice p n c) (.slice none 0 0)).run P w = _
  rw [Op.equalIn]
  cases p <;> simp only [Sem.run_bind, run_underlying ht, Result.andThen_ok, Sem.run_pure, Option.isNone]

theorem sim_eqb (neg : Bool) (t : TypeId) (x y : Operand) (a b : Bool) (ht : P.underlying t = some .bool) :
    (do eqGuard (if neg then .neq else .eql) t x y (.bool a) (.bool b); binOp (if neg then .neq else .eql) t (.bool a) (.bool b) : Sem Value).run P w =
      .ok (.bool (if neg then !(a == b) else a == b)) w := by
  cases neg <;> simp [eqGuard, binOp, run_equal_bool a b ht]

/-- A pointer, or a slice, beside nil. -/
theorem sim_eqn_ptr (neg : Bool) (t e : TypeId) (x y : Operand) (p : Option Addr) (ht : P.underlying t = some (.pointer e)) :
    (do eqGuard (if neg then .neq else .eql) t x y (.pointer p) (.pointer none); binOp (if neg then .neq else .eql) t (.pointer p) (.pointer none) : Sem Value).run P w =
      .ok (.bool (if neg then !p.isNone else p.isNone)) w := by
  cases neg <;> simp [eqGuard, binOp, run_equal_ptr p ht]

theorem sim_eqn_sl (neg : Bool) (t e : TypeId) (x y : Operand) (p : Option Addr) (n c : Nat) (ht : P.underlying t = some (.slice e)) :
    (do eqGuard (if neg then .neq else .eql) t x y (.slice p n c) (.slice none 0 0); binOp (if neg then .neq else .eql) t (.slice p n c) (.slice none 0 0) : Sem Value).run P w =
      .ok (.bool (if neg then !p.isNone else p.isNone)) w := by
  cases neg <;> simp [eqGuard, binOp, run_equal_sl p n c ht]

/-! ### parts of values -/
theorem getD_extract (cs : Array Value) (o s q : Nat) (hq : q < s) (h : o + s ≤ cs.size) : (cs.extract o (o + s)).getD q undef = cs.getD (o + q) undef := by
  have h1 : q < min (o + s) cs.size - o := by omega
  have h2 : o + q < cs.size := by omega
  simp [Array.getD, h1, h2]

theorem list_getD_drop_take {α : Type} (l : List α) (o s q : Nat) (d : α) (hq : q < s) : ((l.drop o).take s).getD q d = l.getD (o + q) d := by
  simp [List.getD, List.getElem?_take, hq]

/-- A part that is read out of cells. -/
theorem V.sub {lv v : LV} {cv : Nat → Value} {agg : Bool} {sz k : Nat}
    (h1 : ∀ q, q < lv.leaves.length → oneCell (cv q) = true) (hv : ∀ q, q < lv.leaves.length → V w X m (lv.leaves.getD q .undef) (cv q))
    (h : sub agg sz k lv = some v) (cs : Array Value) (hcs : agg = true → cs.size = sz ∧ ∀ q, q < sz → cs.getD q Go.undef = cv (k + q)) :
    V w X m v (if agg then .agg cs else cv k) ∧ k < lv.leaves.length + (if agg then 1 else 0) ∧ (agg = true → k + sz ≤ lv.leaves.length) := by
  unfold Am.sub at h
  cases agg with
  | true =>
    simp only [if_true] at h ⊢
    split at h
    · rename_i hle
      cases h
      obtain ⟨hn, hc⟩ := hcs rfl
      have hl : ((lv.leaves.drop k).take sz).length = sz := by simp; omega
      refine ⟨.agg (by rw [hl]; exact hn) (fun i hi => ?_) fun i hi => ?_, by omega, fun _ => hle⟩
      · rw [hl] at hi; rw [hc i hi]; exact h1 _ (by omega)
      · rw [hl] at hi; rw [hc i hi, list_getD_drop_take _ _ _ _ _ hi]; exact hv _ (by omega)
    · cases h
  | false =>
    simp only [Bool.false_eq_true, if_false] at h ⊢
    have hk : k < lv.leaves.length := (List.getElem?_eq_some_iff.1 h).1
    refine ⟨?_, by omega, fun h => by cases h⟩
    have := hv k hk
    rw [List.getD_eq_getElem?_getD, h] at this
    exact this

theorem add_plain (g o j : Nat) : (⟨g, o, none⟩ : Addr).add j = ⟨g, o + j, none⟩ := by unfold Addr.add; split <;> simp_all

theorem isAgg_run {t : TypeId} {g : Bool} (h : isAggT P t = some g) (w : World) : (isAgg t).run P w = .ok g w := by
  unfold isAggT at h
  cases hu : P.underlying t with
  | none => rw [hu] at h; simp at h
  | some d =>
    rw [hu] at h
    unfold isAgg
    simp only [Sem.run_bind, run_underlying hu, Result.andThen_ok]
    cases d <;> simp at h <;> subst h <;> rfl

theorem sizeOf_run {t : TypeId} {n : Nat} (h : sizeT P t = some n) (w : World) : (Go.sizeOf t).run P w = .ok n w := by
  unfold sizeT at h
  cases hi : P.info? t with
  | none => rw [hi] at h; cases h
  | some i => rw [hi] at h; cases h; simp [Go.sizeOf, typeInfo, hi]

/-- A variable is read where its cells are known. -/
theorem run_loadVar_at {t : TypeId} {agg : Bool} {sz b o : Nat} (ha : isAggT P t = some agg) (hs : sizeT P t = some sz) (cv : Nat → Value)
    (hc : ∀ q, q < (if agg then sz else 1) → w.cell? ⟨b, o + q, none⟩ = some (cv q)) :
    ∃ cs : Array Value, (agg = true → cs.size = sz ∧ ∀ q, q < sz → cs.getD q Go.undef = cv q) ∧ (loadVar t ⟨b, o, none⟩).run P w = .ok (if agg then .agg cs else cv 0) w := by
  cases agg with
  | false =>
    refine ⟨#[], (fun h => by cases h), ?_⟩
    have := hc 0 (by simp)
    simp only [Nat.add_zero] at this
    simp [loadVar, isAgg_run ha, this]
  | true =>
    simp only [if_true] at hc ⊢
    let cs : List Value := (List.range sz).map cv
    have hl : (loadCells ⟨b, o, none⟩ cs.length).run P w = .ok cs.toArray w := run_loadCells_list (P := P) w ⟨b, o, none⟩ cs fun j v hj => by
      have hlt : j < sz := by have := (List.getElem?_eq_some_iff.1 hj).1; simpa [cs] using this
      rw [add_plain, hc j hlt]
      simp [cs, hlt] at hj
      rw [hj]
    have hsz : cs.length = sz := by simp [cs]
    rw [hsz] at hl
    refine ⟨cs.toArray, fun _ => ⟨by simp [cs], fun q hq => by simp [cs, hq, Array.getD]⟩, ?_⟩
    simp [loadVar, isAgg_run ha, sizeOf_run hs, hl]

end
end Go.Am
