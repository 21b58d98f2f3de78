/- Maps of whole numbers. -/
import Derived.Test.YtfekfnapgfddbaaGreatAm11
import Derived.MapKept
set_option linter.unusedVariables false
set_option linter.unusedSimpArgs false
set_option linter.unusedSectionVars false
namespace Go.Am
open Go Go.RowKit
variable [HasProg]

section
variable {G : Prop} {P : Program} {F : Nat → Prop} {m : MM} {S : Store} {w : World}

def kvs (en : List MapEntry) : List (Value × Value) := en.map fun x => (x.key, x.val)
def ints (es : List (Int × Int)) : List (Value × Value) := es.map fun x => (Value.int .i64 x.1, Value.int .i64 x.2)

theorem mapT_spec {t : TypeId} (h : mapT P t = true) : ∃ k e, P.underlying t = some (.map k e) ∧ P.underlying k = some (.int .i64) ∧ P.underlying e = some (.int .i64) ∧ zeroT P e = some (.int .i64 0) := by
  unfold mapT at h
  split at h
  · rename_i k e hu
    split at h
    · rename_i h1 h2 h3; exact ⟨k, e, hu, h1, h2, h3⟩
    · cases h
  · cases h

theorem findNow_ints (a : Int) : ∀ (en : List MapEntry) (es : List (Int × Int)) (i : Nat), kvs en = ints es →
    (∃ j b, Instr.findNow (.int .i64) (.int .i64 a) en i = some (some (i + j, .int .i64 b)) ∧ mget es a = some b ∧ j < en.length ∧
      ∀ b', kvs (en.modify j fun e => { e with key := .int .i64 a, val := .int .i64 b' }) = ints (mset es a b')) ∨
    (Instr.findNow (.int .i64) (.int .i64 a) en i = some none ∧ mget es a = none ∧ ∀ b', ints (mset es a b') = kvs en ++ [(.int .i64 a, .int .i64 b')])
  | [], es, i, h => by
    cases es with
    | nil => exact .inr ⟨rfl, rfl, fun b' => rfl⟩
    | cons x es => simp [kvs, ints] at h
  | e :: en, es, i, h => by
    cases es with
    | nil => simp [kvs, ints] at h
    | cons x es =>
      obtain ⟨k, v⟩ := x
      simp only [kvs, ints, List.map_cons, List.cons.injEq, Prod.mk.injEq] at h
      obtain ⟨⟨hk, hv⟩, ht⟩ := h
      by_cases hak : a = k
      · subst hak
        refine .inl ⟨0, v, ?_, by simp [mget], by simp, fun b' => ?_⟩
        · simp [Instr.findNow, Instr.sameNow, hk, hv]
        · simp only [mset, if_true, kvs, ints, List.modify_zero_cons, List.map_cons]
          rw [ht]
      · have hne : (a == k) = false := by simp [hak]
        have hfn : Instr.findNow (.int .i64) (.int .i64 a) (e :: en) i = Instr.findNow (.int .i64) (.int .i64 a) en (i + 1) := by
          simp [Instr.findNow, Instr.sameNow, hk, hne]
        rcases findNow_ints a en es (i + 1) ht with ⟨j, b, h1, h2, h3, h4⟩ | ⟨h1, h2, h3⟩
        · refine .inl ⟨j + 1, b, by rw [hfn, h1]; congr 3; omega, by simp [mget, hak, h2], by simp; omega, fun b' => ?_⟩
          simp only [mset, if_neg hak, List.modify_succ_cons, kvs, ints, List.map_cons, hk, hv]
          congr 1
          exact h4 b'
        · refine .inr ⟨by rw [hfn, h1], by simp [mget, hak, h2], fun b' => ?_⟩
          simp only [mset, if_neg hak, kvs, ints, List.map_cons, List.cons_append, hk, hv]
          congr 1
          exact h3 b'

theorem sim_mkm (h : Rel w F m S) (t : TypeId) : Val G F m S w (.mp S.length) (S ++ [.mapo []]) ((Instr.makeMap t none).run P w) := by
  have hev : Ev F m S w (mput m S.length (w.heap.size, 0, 0)) (S ++ [.mapo []]) (w.alloc (.map #[] 0)) := by
    refine Ev.add h (.mapo []) w.heap.size 0 0 (Nat.le_refl _) rfl rfl rfl (by rw [heap_push_size]; omega) (by rw [heap_push_size]; omega) (fun b hb => heap_push_old w _ hb) fun X hX => ?_
    exact ⟨#[], 0, heap_push_new w _, rfl⟩
  exact ⟨.map (some w.heap.size), _, _, by simp [Instr.makeMap], .mp (mput_new m S.length _), hev, fun _ b hb => heap_push_old w _ hb⟩

theorem map_cell (h : Rel w F m S) {r : Nat} {es : List (Int × Int)} (hS : S[r]? = some (.mapo es)) {a : Value} (hv : V w (XX F m S) m (.mp r) a) :
    ∃ b z cap en ck, a = .map (some b) ∧ m r = some (b, z, cap) ∧ w.heap[b]? = some (.map en ck) ∧ kvs en.toList = ints es := by
  cases hv with
  | @mp _ _ b z cap hm =>
    obtain ⟨o, ho, hr⟩ := h.obj r b z cap hm
    rw [hS] at ho
    obtain rfl := Option.some.inj ho
    obtain ⟨en, ck, hh, he⟩ := hr
    exact ⟨b, z, cap, en, ck, rfl, hm, hh, he⟩

theorem run_stays (a : Int) : (Instr.keyThatStays (.int .i64 a) (.int .i64 a)).run P w = .ok (.int .i64 a) w := by
  have : Instr.sameBits 10000 (.int .i64 a) (.int .i64 a) = true := by simp [Instr.sameBits]
  simp [Instr.keyThatStays, this]

theorem sim_mlk (h : Rel w F m S) {t : TypeId} (ht : mapT P t = true) {r : Nat} {es : List (Int × Int)} (hS : S[r]? = some (.mapo es)) {a : Value} (hv : V w (XX F m S) m (.mp r) a) (k : Int) (ok : Bool) :
    Val G F m S w (if ok then .tup [.int .i64 ((mget es k).getD 0), .bool (mget es k).isSome] else .int .i64 ((mget es k).getD 0)) S ((Instr.lookup t a (.int .i64 k) ok).run P w) := by
  obtain ⟨kt, et, hu, hk, he, hz⟩ := mapT_spec ht
  obtain ⟨b, z, cap, en, ck, rfl, hm, hh, hen⟩ := map_cell h hS hv
  obtain ⟨hz1, _, _⟩ := zeroT_run hz w
  have hck : ∀ e, (Instr.checkKey e 10000 kt (.int .i64 k)).run P w = .ok () w := fun e => MapKept.run_checkKey hk (by simp [MapKept.IsKey]) e 9999
  have two : ∀ x y, V w (XX F m S) m (.tup [.int .i64 x, .bool y]) (.tuple #[.int .i64 x, .bool y]) := fun x y => .tup (by simp) fun i hi => by
    have : i = 0 ∨ i = 1 := by simp at hi; omega
    rcases this with rfl | rfl
    · exact .int
    · exact .bool
  rcases findNow_ints k en.toList es 0 hen with ⟨j, v, h1, h2, _, _⟩ | ⟨h1, h2, _⟩
  · refine Val.same (u := if ok then .tuple #[.int .i64 v, .bool true] else .int .i64 v) h ?_ ?_
    · cases ok <;> simp [Instr.lookup, run_underlying hu, Result.andThen, MapKept.run_getObj_map hh, hck, MapKept.run_findKey hk h1]
    · rw [h2]; cases ok
      · exact .int
      · exact two _ _
  · refine Val.same (u := if ok then .tuple #[.int .i64 0, .bool false] else .int .i64 0) h ?_ ?_
    · cases ok <;> simp [Instr.lookup, run_underlying hu, Result.andThen, MapKept.run_getObj_map hh, hck, MapKept.run_findKey hk h1, hz1]
    · rw [h2]; cases ok
      · exact .int
      · exact two _ _

theorem sim_mup (h : Rel w F m S) {t : TypeId} (ht : mapT P t = true) {r : Nat} {es : List (Int × Int)} (hS : S[r]? = some (.mapo es)) {a : Value} (hv : V w (XX F m S) m (.mp r) a) (k v : Int) :
    ∃ w', (Instr.mapUpdate t a (.int .i64 k) (.int .i64 v)).run P w = .ok () w' ∧ Ev F m S w m (S.set r (.mapo (mset es k v))) w' := by
  obtain ⟨kt, et, hu, hk, he, hz⟩ := mapT_spec ht
  obtain ⟨b, z, cap, en, ck, rfl, hm, hh, hen⟩ := map_cell h hS hv
  have hck : ∀ e, (Instr.checkKey e 10000 kt (.int .i64 k)).run P w = .ok () w := fun e => MapKept.run_checkKey hk (by simp [MapKept.IsKey]) e 9999
  have hlt := heap_lt hh
  have fin : ∀ en' ck', kvs en'.toList = ints (mset es k v) → Ev F m S w m (S.set r (.mapo (mset es k v))) { w with heap := w.heap.setIfInBounds b (.map en' ck') } := by
    intro en' ck' h'
    refine Ev.set h hm ⟨_, hS, trivial⟩ (.mapo (mset es k v)) trivial rfl rfl rfl (by simp) (fun q hq => by simp [Ne.symm hq]) fun _ => ⟨en', ck', by simp [hlt], h'⟩
  rcases findNow_ints k en.toList es 0 hen with ⟨j, v0, h1, h2, h3, h4⟩ | ⟨h1, h2, h3⟩
  · have hj : j < en.size := by simpa using h3
    have hkey : en[j].key = .int .i64 k := by
      have := h4 v
      have hfk := MapKept.run_findKey (w := w) hk h1
      clear hfk
      -- the key that was found
      have hx : (kvs en.toList)[j]? = (ints es)[j]? := by rw [hen]
      have gen : ∀ (en : List MapEntry) (i : Nat) {p v}, Instr.findNow (.int .i64) (.int .i64 k) en i = some (some (p, v)) → i ≤ p ∧ ∃ e, en[p - i]? = some e ∧ e.key = .int .i64 k := by
        intro en
        induction en with
        | nil => intro i p v h; simp [Instr.findNow] at h
        | cons e en ih =>
          intro i p v h
          simp only [Instr.findNow] at h
          split at h
          · rename_i hs
            simp only [Option.some.injEq, Prod.mk.injEq] at h
            obtain ⟨rfl, rfl⟩ := h
            refine ⟨Nat.le_refl _, e, by simp, ?_⟩
            cases hk : e.key <;> simp [hk, Instr.sameNow] at hs
            obtain ⟨rfl, rfl⟩ := hs
            rfl
          · obtain ⟨h1, e', h2, h3⟩ := ih _ h
            refine ⟨by omega, e', ?_, h3⟩
            have : p - i = (p - (i + 1)) + 1 := by omega
            rw [this, List.getElem?_cons_succ]; exact h2
          · cases h
      obtain ⟨_, e, h2, h3⟩ := gen _ _ h1
      simp only [Nat.zero_add, Nat.sub_zero, Array.getElem?_toList] at h2
      obtain ⟨_, h2⟩ := Array.getElem?_eq_some_iff.1 h2
      rw [h2]; exact h3
    refine ⟨_, ?_, fin (en.modify j fun e => { e with key := .int .i64 k, val := .int .i64 v }) ck ?_⟩
    · simp [Instr.mapUpdate, run_underlying hu, Result.andThen, MapKept.run_getObj_map hh, hck, MapKept.run_findKey hk h1, hj, hkey, run_stays, MapKept.run_setObj_map _ hh]
    · rw [Array.toList_modify]; exact h4 v
  · refine ⟨_, ?_, fin (en.push { key := .int .i64 k, val := .int .i64 v, born := ck }) (ck + 1) ?_⟩
    · simp [Instr.mapUpdate, run_underlying hu, Result.andThen, MapKept.run_getObj_map hh, hck, MapKept.run_findKey hk h1, MapKept.run_setObj_map _ hh]
    · rw [h3 v]; simp [kvs]

end
end Go.Am
