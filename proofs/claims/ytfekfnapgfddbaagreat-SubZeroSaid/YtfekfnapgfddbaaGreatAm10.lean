/- Every operation but a call: what the plain machine says of it the model does. -/
import Derived.Test.YtfekfnapgfddbaaGreatAm9
set_option linter.unusedVariables false
set_option linter.unusedSimpArgs false
set_option linter.unusedSectionVars false
namespace Go.Am
open Go Go.RowKit
variable [HasProg]

section
variable {G : Prop} {P : Program} {F : Nat → Prop} {m : MM} {S : Store} {w : World}

theorem sim_slice_str (h : Rel w F m S) {t : TypeId} (hu : P.underlying t = some .string) {s : ByteArray} {v : LV}
    {lo hi : Option LV} {lo' hi' : Option Value}
    (h1 : ∀ v, lo = some v → ∃ u, lo' = some u ∧ V w (XX F m S) m v u) (h1n : lo = none → lo' = none) (h2 : ∀ v, hi = some v → ∃ u, hi' = some u ∧ V w (XX F m S) m v u) (h2n : hi = none → hi' = none)
    (hs : aslice 0 (.str s) lo hi none = some v) : Val G F m S w v S ((Instr.sliceAt t (.string s) lo' hi' none).run P w) := by
  simp only [aslice, if_true] at hs
  cases hb : bounds s.size lo hi with
  | none => rw [hb] at hs; cases hs
  | some lh =>
    obtain ⟨l, hh⟩ := lh
    rw [hb] at hs
    cases hs
    obtain ⟨hsb, hlh, hhn⟩ := run_sliceBounds (P := P) (w := w) (isS := false) h1 h1n h2 h2n hb (Nat.le_refl _)
    refine Val.same h (u := .string (s.extract l hh)) ?_ .str
    simp only [Instr.sliceAt, Sem.run_bind, run_underlying hu, Result.andThen_ok, Instr.slice, hsb, Sem.run_pure, Option.isSome]
    simp [hsb]

theorem sim_slice_none (h : Rel w F m S) {t e z : Nat} (hu : P.underlying t = some (.slice e)) (hsz : sizeT P e = some z) {x v : LV} {ux : Value} (hvx : V w (XX F m S) m x ux)
    {lo hi mx : Option LV} {lo' hi' mx' : Option Value} {mv : LV}
    (h1n : lo = none → lo' = none) (h2 : ∀ v, hi = some v → ∃ u, hi' = some u ∧ V w (XX F m S) m v u) (h3 : ∀ v, mx = some v → ∃ u, mx' = some u ∧ V w (XX F m S) m v u)
    (hm : mx = some mv) (hs : aslice z x lo hi mx = some v) : Val G F m S w v S ((Instr.sliceAt t ux lo' hi' mx').run P w) := by
  subst hm
  simp only [aslice] at hs
  cases lo with
  | some => simp at hs
  | none =>
    cases hi with
    | none => simp at hs
    | some hv =>
      cases hn : natOf mv with
      | none => simp [hn] at hs
      | some k =>
        simp only [hn] at hs
        cases k with
        | succ k => simp at hs
        | zero =>
          simp only at hs
          split at hs
          · rename_i hh0
            obtain rfl := h1n rfl
            obtain ⟨uh, rfl, huh⟩ := h2 _ rfl
            obtain ⟨um, rfl, hum⟩ := h3 _ rfl
            obtain ⟨kd, n, rfl, hn0, hn1⟩ := natOf_run hum hn
            obtain ⟨kd', n', rfl, hn0', hn1'⟩ := natOf_run huh hh0
            have hb : ∀ (n2 c : Nat), (Instr.sliceBounds true n2 c none (some (.int kd' n')) (some (.int kd n))).run P w = .ok (0, 0, 0) w := by
              intro n2 c
              simp only [Instr.sliceBounds, Sem.run_bind, Sem.run_pure, Result.andThen_ok]
              rw [run_sliceBound _ hn0 (by omega)]
              simp only [Result.andThen_ok, hn1]
              rw [run_sliceBound _ hn0' (by omega)]
              simp [hn1']
            have hrun : ∀ (a : Option Addr) (n2 c : Nat), (Instr.sliceAt t (.slice a n2 c) none (some (.int kd' n')) (some (.int kd n))).run P w = .ok (.slice a 0 0) w := by
              intro a n2 c
              simp only [Instr.sliceAt, Sem.run_bind, run_underlying hu, Result.andThen_ok, Instr.slice, hb, sizeOf_run hsz, Sem.run_pure]
              simp
            cases x <;> try (cases hs; done)
            · rename_i nil es
              cases nil with
              | false => cases hs; cases hvx with | sl => exact Val.same h (hrun _ _ _) .slz
              | true =>
                cases es with
                | cons => simp at hs
                | nil =>
                  cases hs
                  cases hvx with
                  | sl hn2 hc hcm hnil h00 hz hb2 ho hv2 =>
                    have hc0 := h00 rfl
                    subst hc0
                    simp at hn2
                    subst hn2
                    exact Val.same h (hrun _ _ _) (.sl rfl hc hcm hnil h00 hz hb2 ho hv2)
            · cases hs; cases hvx with | row => exact Val.same h (hrun _ _ _) .slz
          · cases hs

theorem sim_idx (h : Rel w F m S) {t e z : Nat} (hu : P.underlying t = some (.slice e)) (hsz : sizeT P e = some z) {x v : LV} {ux : Value} (hvx : V w (XX F m S) m x ux) {k : IntKind} {n : Int} 
    (hs : aidx z x n = some v) : Val G F m S w v S ((Instr.indexAt t ux (.int k n)).run P w) := by
  have hrun : ∀ (a : Addr) (len c : Nat), 0 ≤ n → n < len → (Instr.indexAt t (.slice (some a) len c) (.int k n)).run P w = .ok (.pointer (some (a.add (n.toNat * z)))) w := by
    intro a len c h0 hl
    simp [Instr.indexAt, asIntOf, run_underlying hu, sizeOf_run hsz, h0, hl]
  cases x <;> simp only [aidx] at hs <;> try (cases hs; done)
  · rename_i nil es
    split at hs
    · rename_i h0
      cases he : es[n.toNat]? with
      | none => rw [he] at hs; cases hs
      | some y =>
        rw [he] at hs
        simp only at hs
        split at hs
        · rename_i hsol
          cases hs
          have hlt := (List.getElem?_eq_some_iff.1 he).1
          cases hvx with
          | @sl _ _ _ a n2 c z' cv hn hc hcm hnil h00 hz' hb' ho1 hvv =>
            subst hn
            obtain ⟨b, o, ea, hx, hbl, hcell⟩ := hb' (by omega)
            subst ea
            have hzz : y.leaves.length = z' := hz' y (List.mem_of_getElem? he)
            obtain rfl : z = z' := by omega
            have hidx : ∀ q, q < z → n.toNat * z + q < es.length * z := by
              intro q hq
              have : (n.toNat + 1) * z ≤ es.length * z := Nat.mul_le_mul_right _ hlt
              rw [Nat.add_mul] at this; omega
            refine Val.same h (hrun _ _ _ h0 (by omega)) ?_
            rw [add_plain]
            refine (V.imm (k := 0) (o := o + n.toNat * z) (cv := fun q => cv (n.toNat * z + q)) hsol.1 hx hbl (fun q hq => ?_) (fun q hq => ho1 _ (hidx q (by omega))) fun q hq => ?_ : V w (XX F m S) m (.imm y 0) _)
            · rw [Nat.add_assoc]; exact hcell _ (hidx q (by omega))
            · have := hvv _ (hidx q (by omega))
              rw [flat_getD hz' hlt (by omega), List.getD_eq_getElem?_getD (l := es), he] at this
              exact this
        · cases hs
    · cases hs
  · rename_i r z' off len
    split at hs
    · rename_i hh
      obtain ⟨h0, hl, rfl⟩ := hh
      cases hs
      cases hvx with
      | @row _ _ _ _ _ b cap o c hm ha hlc hc hcm =>
        obtain ⟨e1, _⟩ := ha (.inl (by omega))
        refine Val.same h (hrun _ _ _ h0 hl) ?_
        rw [add_plain, e1]
        have : off * z' + n.toNat * z' = (off + n.toNat) * z' + 0 := by rw [Nat.add_mul]; omega
        rw [this]
        exact .ref hm
    · cases hs

theorem sim_b2s (h : Rel w F m S) {src e dst : TypeId} (hs : P.underlying src = some (.slice e)) (he8 : P.underlying e = some (.int .u8)) (hd : P.underlying dst = some .string)
    {x : LV} {ux : Value} (hvx : V w (XX F m S) m x ux) {es : List LV} (he : elems S x = some es) {l : List Int} (hl : mapO byteOf es = some l) : (convert src dst ux).run P w = .ok (.string (strOfNums l)) w := by
  have hint : ∀ (i : Nat) (v : LV), es[i]? = some v → ∃ n, v = .int .u8 n ∧ l[i]? = some n := by
    intro i v hi
    obtain ⟨b, hb, hb'⟩ := mapO_get hl i v hi
    unfold byteOf at hb
    split at hb
    · cases hb; exact ⟨_, rfl, hb'⟩
    · cases hb
  have hsz : sized 1 es := fun v hv => by
    obtain ⟨i, hi⟩ := List.mem_iff_getElem?.1 hv
    obtain ⟨n, rfl, _⟩ := hint i v hi
    rfl
  obtain ⟨a, n, c, rfl, hnc, hcm, ⟨hen, cv, hb, ho, hv⟩, hac⟩ := elems_lies h hvx he hsz
  have hll := mapO_length hl
  rcases Nat.eq_zero_or_pos n with rfl | hp
  · obtain rfl : es = [] := List.eq_nil_of_length_eq_zero hen
    cases hl
    cases a with
    | none => exact run_convert_bytes_nil (P := P) w src e hs he8 0 c dst hd
    | some ad =>
      obtain ⟨b, o, sp⟩ := ad
      cases sp with
      | none => exact run_convert_bytes_arg (P := P) w src e hs he8 b o 0 c [] rfl (fun i hi => by omega) dst hd
      | some q =>
        simp [convert, run_underlying hs, run_underlying hd, run_underlying he8, Conv.bytesToString, loadCells, loadCellsFrom]
        rfl
  · obtain ⟨b, o, rfl, hcell⟩ := hb hp
    refine run_convert_bytes_arg (P := P) w src e hs he8 b o n c l (by omega) (fun i hi => ?_) dst hd
    have hi' : i < es.length := by omega
    obtain ⟨k, hk, hk'⟩ := hint i _ (List.getElem?_eq_getElem hi')
    have h1 := hv i (by omega)
    have hf := flat_getD hsz (j := i) (k := 0) hi' (by omega)
    simp only [Nat.mul_one, Nat.add_zero] at hf
    rw [hf, List.getD_eq_getElem?_getD (l := es), List.getElem?_eq_getElem hi', Option.getD_some, hk] at h1
    rw [hcell i (by omega), List.getD_eq_getElem?_getD, hk']
    have := h1.int_inv
    rw [this]; rfl

end
end Go.Am
