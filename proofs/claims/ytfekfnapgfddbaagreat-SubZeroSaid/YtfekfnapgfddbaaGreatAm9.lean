/- Rows that are made; slices that are cut; the rest. -/
import Derived.Test.YtfekfnapgfddbaaGreatAm8
set_option linter.unusedVariables false
set_option linter.unusedSimpArgs false
set_option linter.unusedSectionVars false
namespace Go.Am
open Go Go.RowKit
variable [HasProg]

section
variable {G : Prop} {P : Program} {F : Nat → Prop} {m : MM} {S : Store} {w : World}

theorem zero_V {X : Nat → Prop} {m : MM} {t : TypeId} {z : Value} (hz : zeroT P t = some z) :
    (ofV z).leaves.length = z.cells.size ∧ (∀ q, q < z.cells.size → V w X m ((ofV z).leaves.getD q .undef) (z.cells.getD q Go.undef)) ∧ ∀ q, q < z.cells.size → oneCell (z.cells.getD q Go.undef) = true := by
  obtain ⟨hz1, hz2, hz3⟩ := zeroT_run hz w
  have hzV : V w X m (ofV z) z := ofV_V z hz3
  refine ⟨?_, ?_, fun q hq => ?_⟩
  · by_cases hag : ∃ cs, z = .agg cs
    · obtain ⟨cs, rfl⟩ := hag
      exact (hzV.cells rfl).1.symm
    · have e1 : (ofV z).leaves = [ofV z] := by
        have : ofV z = ofLeaf z := by cases z <;> first | rfl | exact (hag ⟨_, rfl⟩).elim
        rw [this]; unfold ofLeaf; split <;> rfl
      have e2 : z.cells = #[z] := by cases z <;> first | rfl | exact (hag ⟨_, rfl⟩).elim
      rw [e1, e2]; rfl
  · by_cases hag : ∃ cs, z = .agg cs
    · obtain ⟨cs, rfl⟩ := hag
      obtain ⟨c1, c2, c3⟩ := hzV.cells rfl
      exact fun q hq => c3 q (by omega)
    · have e1 : (ofV z).leaves = [ofV z] := by
        have : ofV z = ofLeaf z := by cases z <;> first | rfl | exact (hag ⟨_, rfl⟩).elim
        rw [this]; unfold ofLeaf; split <;> rfl
      have e2 : z.cells = #[z] := by cases z <;> first | rfl | exact (hag ⟨_, rfl⟩).elim
      rw [e1, e2]
      intro q hq
      obtain rfl : q = 0 := by simpa using hq
      simpa using hzV
  · rw [Array.getD, dif_pos hq]
    exact (List.all_eq_true.1 hz3) _ (by simp)

theorem sized_replicate {z n : Nat} {v : LV} (h : v.leaves.length = z) : sized z (List.replicate n v) := fun u hu => by rw [(List.mem_replicate.1 hu).2]; exact h

theorem flat_replicate {z n q : Nat} {v : LV} (h : v.leaves.length = z) (hz : 0 < z) (hq : q < n * z) : (flat (List.replicate n v)).getD q .undef = v.leaves.getD (q % z) .undef := by
  have a1 : q / z < n := (Nat.div_lt_iff_lt_mul hz).2 hq
  have a2 : q % z < z := Nat.mod_lt _ hz
  have a3 : q = q / z * z + q % z := by have := Nat.div_add_mod q z; rw [Nat.mul_comm] at this; omega
  conv => lhs; rw [a3]
  rw [flat_getD (sized_replicate h) (by simpa using a1) a2]
  congr 2
  rw [List.getD_eq_getElem?_getD, List.getElem?_replicate, if_pos a1]; rfl

theorem sim_make (h : Rel w F m S) {t e z b : Nat} (hT : rowT P t = some (e, z, b)) {zv : Value} (hz : zeroT P e = some zv) {k : IntKind} {n : Int} (h0 : 0 ≤ n) (hn : n ≤ 4294967296) :
    Val G F m S w (.row S.length z 0 n.toNat) (S ++ [.row e z (List.replicate n.toNat (ofV zv)) true]) ((Instr.makeSlice t (.int k n) (.int k n)).run P w) := by
  obtain ⟨hu, i, zv', hi, hzv, hsi, hbi, hzs, hz0, hb, hzt⟩ := rowT_spec hT
  rw [hz] at hzt
  obtain rfl := Option.some.inj hzt
  have hml : maxLen = 9223372036854775807 := rfl
  obtain ⟨c1, c2, c3⟩ := zero_V (P := P) (w := w) (X := XX F m S) (m := M0) hz
  have hrun := run_make (P := P) w t e i zv hu hi hzv k k n n h0 (Int.le_refl _) (by
    rw [hbi]
    have : (b : Int) * n ≤ 4096 * 4294967296 := Int.mul_le_mul (by omega) hn h0 (by omega)
    omega) (by omega)
  have hget : ∀ q, q < n.toNat * z → (madeCells zv.cells (n.toNat * i.size)).getD q Go.undef = zv.cells.getD (q % z) Go.undef := by
    intro q hq
    have hm : q % z < z := Nat.mod_lt _ hz0
    have hm' : q % zv.cells.size < zv.cells.size := by rw [hzs]; exact hm
    rw [hsi]
    have hq' : q < (madeCells zv.cells (n.toNat * z)).size := by rw [size_madeCells]; exact hq
    rw [Array.getD, dif_pos hq', Array.getD, dif_pos (by rw [hzs]; exact hm)]
    simp [madeCells, hm', hzs, hm]
  have hns := sim_newrow (w := w) h (E := e) hz0 (es := List.replicate n.toNat (ofV zv)) (sized_replicate (by omega)) (madeCells zv.cells (n.toNat * i.size)) n.toNat (by rw [size_madeCells, hsi]) (by simp) (by omega)
    (fun q hq => by
      simp only [List.length_replicate] at hq
      rw [hget q hq]
      exact c3 _ (by rw [hzs]; exact Nat.mod_lt _ hz0))
    (fun q hq => by
      simp only [List.length_replicate] at hq
      rw [hget q hq, flat_replicate (by omega) hz0 hq]
      exact c2 _ (by rw [hzs]; exact Nat.mod_lt _ hz0)) w rfl rfl rfl rfl
  simp only [List.length_replicate] at hns
  exact ⟨_, _, _, hrun, hns.2, hns.1, fun _ b hb => heap_push_old w _ hb⟩

theorem cElems_spec : ∀ {k : Nat} {l : List (Nat × Operand)} {xs : List Opd}, cElems k l = some xs → xs.length = l.length ∧
    ∀ (i : Nat) (x : Nat × Operand) (y : Opd), l[i]? = some x → xs[i]? = some y → x.1 = k + i ∧ cOpd x.2 = some y
  | k, [], xs, h => by cases h; exact ⟨rfl, fun i x y hx => by simp at hx⟩
  | k, (j, x) :: l, xs, h => by
    simp only [cElems] at h
    split at h
    · rename_i hj
      split at h
      · rename_i y ys h1 h2
        cases h
        obtain ⟨g1, g2⟩ := cElems_spec h2
        refine ⟨by simp [g1], fun i a b ha hb => ?_⟩
        cases i with
        | zero => simp at ha hb; subst ha; subst hb; exact ⟨by simpa using hj, h1⟩
        | succ i =>
          obtain ⟨k1, k2⟩ := g2 i a b (by simpa using ha) (by simpa using hb)
          exact ⟨by omega, k2⟩
      · cases h
    · cases h

theorem fillZ_seq {z : Nat} : ∀ (ds : List LV) (pre : List LV) (k : Nat), sized z ds → (∀ d ∈ ds, solid d = true) → pre.length = k * z →
    fillZ (pre ++ List.replicate (ds.length * z) .undef) ((ds.zipIdx k).map fun (d, i) => (i * z, z, d)) = some (pre ++ flat ds)
  | [], pre, k, _, _, _ => by simp [fillZ, flat]
  | d :: ds, pre, k, hz, hs, hp => by
    have hd : d.leaves.length = z := hz d (by simp)
    have hds : sized z ds := fun u hu => hz u (by simp [hu])
    simp only [List.zipIdx_cons, List.map_cons, fillZ]
    have hlen : (pre ++ List.replicate ((d :: ds).length * z) LV.undef).length = k * z + (ds.length + 1) * z := by simp [hp]
    have hle : k * z + z ≤ (pre ++ List.replicate ((d :: ds).length * z) LV.undef).length := by rw [hlen, Nat.add_mul]; omega
    rw [if_pos ⟨hd, hle, hs d (by simp)⟩]
    have e1 : (pre ++ List.replicate ((d :: ds).length * z) LV.undef).take (k * z) = pre := by rw [← hp]; exact List.take_left
    have e2 : (pre ++ List.replicate ((d :: ds).length * z) LV.undef).drop (k * z + z) = List.replicate (ds.length * z) LV.undef := by
      rw [List.drop_append, ← hp]
      simp only [List.length_cons, Nat.add_mul, Nat.one_mul]
      rw [List.drop_eq_nil_of_le (by omega)]
      simp
    rw [e1, e2, fillZ_seq ds (pre ++ d.leaves) (k + 1) hds (fun u hu => hs u (by simp [hu])) (by simp [hp, hd, Nat.add_mul])]
    simp [flat]

theorem sim_bsl (h : Rel w F m S) {t e z b n : Nat} (hT : rowT P t = some (e, z, b)) (hn0 : 0 < n) (hn : n ≤ 4096) (hzb : z ≤ 4096) {parts : Array (Nat × Operand)} (hpn : parts.size = n) {xs : List Opd} (hx : cElems 0 parts.toList = some xs)
    {ev : Env} {ρ : Operand → Value} {ds : List LV} {us : List Value} (hus : us = parts.toList.map fun x => ρ x.2) (hdl : ds.length = us.length) (hds : sized z ds) (hsol : ∀ d ∈ ds, solid d = true)
    (hv : ∀ i, i < ds.length → V w (XX F m S) M0 (ds.getD i .undef) (us.getD i Go.undef)) :
    Val G F m S w (.row S.length z 0 ds.length) (S ++ [.row e z ds true]) ((Instr.buildSlice t n (parts.map fun (i, x) => (i, ρ x))).run P w) := by
  obtain ⟨hu, i, zv, hi, hzv, hsi, hbi, hzs, hz0, hb, hzt⟩ := rowT_spec hT
  obtain ⟨g1, g2⟩ := cElems_spec hx
  obtain ⟨hz1, hz2, hz3⟩ := zeroT_run hzt w
  obtain ⟨c1, c2, c3⟩ := zero_V (P := P) (w := w) (X := XX F m S) (m := M0) hzt
  have hul : us.length = n := by rw [hus]; simp [hpn]
  have hml : maxLen = 9223372036854775807 := rfl
  have hnz : n * z ≤ 16777216 := by
    have : n * z ≤ 4096 * 4096 := Nat.mul_le_mul hn hzb
    omega
  -- the zero row
  have hfz := fillZ_seq (z := z) ds [] 0 hds hsol (by simp)
  simp only [List.nil_append] at hfz
  have hzero : ∀ q, q < n * z → oneCell (((Array.range (n * z)).map (zv.cells[· % zv.cells.size]!)).toList.getD q Go.undef) = true := by
    intro q hq
    have hm : q % zv.cells.size < zv.cells.size := Nat.mod_lt _ (by omega)
    have := c3 _ hm
    rw [Array.getD, dif_pos hm] at this
    simp [hq, hm]
    exact this
  have hidxd : ∀ (j : Nat) (y : Nat × Nat × LV), ((ds.zipIdx 0).map fun (d, i) => (i * z, z, d))[j]? = some y → j < ds.length ∧ y = (j * z, z, ds.getD j .undef) := by
    intro j y hy
    rw [List.getElem?_map, List.getElem?_zipIdx] at hy
    cases hd : ds[j]? with
    | none => rw [hd] at hy; cases hy
    | some d =>
      rw [hd] at hy
      simp at hy
      refine ⟨(List.getElem?_eq_some_iff.1 hd).1, ?_⟩
      rw [← hy, List.getD_eq_getElem?_getD, hd]; rfl
  have hidxu : ∀ (j : Nat) (y : Nat × Nat × Value), ((us.zipIdx 0).map fun (d, i) => (i * z, z, d))[j]? = some y → y = (j * z, z, us.getD j Go.undef) := by
    intro j y hy
    rw [List.getElem?_map, List.getElem?_zipIdx] at hy
    cases hd : us[j]? with
    | none => rw [hd] at hy; cases hy
    | some d =>
      rw [hd] at hy
      simp at hy
      rw [← hy, List.getD_eq_getElem?_getD, hd]; rfl
  obtain ⟨rv, r1, r2, r3, r4⟩ := fillV_of (w := w) (X := XX F m S) (m := M0) ((ds.zipIdx 0).map fun (d, i) => (i * z, z, d)) ((us.zipIdx 0).map fun (d, i) => (i * z, z, d))
    (List.replicate (ds.length * z) .undef) ((Array.range (n * z)).map (zv.cells[· % zv.cells.size]!)).toList (flat ds) (by simp [hdl])
    (fun j x y hx hy => by
      obtain ⟨k1, k2⟩ := hidxd j x hx
      have k3 := hidxu j y hy
      subst k2; subst k3
      exact ⟨rfl, rfl, hv j k1⟩)
    (by simp [hdl, hul]) (fun q hq => by simp only [List.length_replicate, hdl, hul] at hq; exact hzero q hq)
    (fun q hq => by
      have : (List.replicate (ds.length * z) LV.undef).getD q .undef = .undef := by simp [List.getD, List.getElem?_replicate]; split <;> rfl
      rw [this]; exact .undef) hfz
  have hfill : Instr.fill (fun i => some (i * z, z)) ((Array.range (n * z)).map (zv.cells[· % zv.cells.size]!)) (parts.map fun (i, x) => (i, ρ x)).toList = some rv.toArray := by
    have := fill_eq (fun i => some (i * z, z)) (parts.map fun (i, x) => (i, ρ x)).toList ((us.zipIdx 0).map fun (d, i) => (i * z, z, d)) ((Array.range (n * z)).map (zv.cells[· % zv.cells.size]!)).toList rv (by simp [hul, hpn])
      (fun j x y hx hy => by
        have k3 := hidxu j y hy
        subst k3
        rw [Array.toList_map, List.getElem?_map] at hx
        cases hxi : parts.toList[j]? with
        | none => rw [hxi] at hx; cases hx
        | some a =>
          rw [hxi] at hx
          have hjl := (List.getElem?_eq_some_iff.1 hxi).1
          have := (g2 j a _ hxi (List.getElem?_eq_getElem (by omega))).1
          simp at hx
          subst hx
          refine ⟨by simp at this; simp [this], ?_⟩
          rw [hus, List.getD_eq_getElem?_getD, List.getElem?_map, hxi]; rfl) r1
    rw [Array.toArray_toList] at this; exact this
  have hfl := flat_length hds
  have hns := sim_newrow (w := w) h (E := e) hz0 hds rv.toArray ds.length (by simp; omega) (Nat.le_refl _) (by omega) (fun q hq => by rw [arr_getD]; exact r3 q (by omega)) (fun q hq => by rw [arr_getD]; exact r4 q (by omega)) w rfl rfl rfl rfl
  refine ⟨_, _, _, ?_, hns.2, hns.1, fun _ b hb => heap_push_old w _ hb⟩
  have hno : ¬ (n * z > 2 ^ 24) := by omega
  have hsz : sizeT P e = some z := by rw [hz2, hzs]
  have h00 : n * z ≠ 0 := by
    have : 1 * 1 ≤ n * z := Nat.mul_le_mul hn0 hz0
    omega
  simp only [Instr.buildSlice, Sem.run_bind, run_underlying hu, Result.andThen_ok, sizeOf_run hsz, if_neg hno, if_neg h00, hz1, Sem.run_pure]
  rw [hfill]
  simp [newRow, hdl, hul]

/-! ### cutting -/
theorem natOf_run {k : Nat} {lv : LV} {u : Value} {X : Nat → Prop} {m : MM} (hv : V w X m lv u) (h : natOf lv = some k) : ∃ kd n, u = .int kd n ∧ 0 ≤ n ∧ n.toNat = k := by
  cases lv <;> simp only [natOf] at h <;> try (cases h; done)
  split at h
  · cases h; cases hv; exact ⟨_, _, rfl, by assumption, rfl⟩
  · cases h

theorem run_sliceBound {k : IntKind} {n : Int} {y : Nat} (code : BoundsCode) (h0 : 0 ≤ n) (hle : n.toNat ≤ y) : (Instr.sliceBound (.int k n) y code).run P w = .ok n.toNat w := by
  have : 0 ≤ n ∧ n ≤ (y : Int) := ⟨h0, by omega⟩
  simp [Instr.sliceBound, asIntOf, this]

theorem run_sliceBounds {X : Nat → Prop} {m : MM} {isS : Bool} {len cap l hh : Nat} {lo hi : Option LV} {lo' hi' : Option Value}
    (h1 : ∀ v, lo = some v → ∃ u, lo' = some u ∧ V w X m v u) (h1n : lo = none → lo' = none) (h2 : ∀ v, hi = some v → ∃ u, hi' = some u ∧ V w X m v u) (h2n : hi = none → hi' = none)
    (hb : bounds len lo hi = some (l, hh)) (hc : len ≤ cap) : (Instr.sliceBounds isS len cap lo' hi' none).run P w = .ok (l, hh, cap) w ∧ l ≤ hh ∧ hh ≤ len := by
  unfold bounds at hb
  cases lo with
  | none =>
    obtain rfl := h1n rfl
    cases hi with
    | none =>
      obtain rfl := h2n rfl
      simp only at hb
      split at hb
      · cases hb
        rename_i hh
        exact ⟨by simp [Instr.sliceBounds], hh.1, hh.2⟩
      · cases hb
    | some v =>
      obtain ⟨u, rfl, hv⟩ := h2 v rfl
      simp only at hb
      cases hn : natOf v with
      | none => rw [hn] at hb; cases hb
      | some k =>
        rw [hn] at hb
        simp only at hb
        split at hb
        · cases hb
          rename_i hh
          obtain ⟨kd, n, rfl, h0, rfl⟩ := natOf_run hv hn
          refine ⟨?_, hh.1, hh.2⟩
          simp only [Instr.sliceBounds, Sem.run_bind, Sem.run_pure, Result.andThen_ok]
          rw [run_sliceBound _ h0 (by omega)]
          simp
        · cases hb
  | some vl =>
    obtain ⟨ul, rfl, hvl⟩ := h1 vl rfl
    cases hnl : natOf vl with
    | none => simp only [hnl] at hb; cases hi <;> simp at hb
    | some kl =>
      obtain ⟨kd, nl, rfl, h0, rfl⟩ := natOf_run hvl hnl
      simp only [hnl] at hb
      cases hi with
      | none =>
        obtain rfl := h2n rfl
        simp only at hb
        split at hb
        · cases hb
          rename_i hh
          refine ⟨?_, hh.1, hh.2⟩
          simp only [Instr.sliceBounds, Sem.run_bind, Sem.run_pure, Result.andThen_ok]
          rw [run_sliceBound _ h0 hh.1]
          simp
        · cases hb
      | some v =>
        obtain ⟨u, rfl, hv⟩ := h2 v rfl
        simp only at hb
        cases hn : natOf v with
        | none => rw [hn] at hb; cases hb
        | some k =>
          rw [hn] at hb
          simp only at hb
          split at hb
          · cases hb
            rename_i hh
            obtain ⟨kd', n', rfl, h0', rfl⟩ := natOf_run hv hn
            refine ⟨?_, hh.1, hh.2⟩
            simp only [Instr.sliceBounds, Sem.run_bind, Sem.run_pure, Result.andThen_ok]
            rw [run_sliceBound _ h0' (by omega)]
            simp only [Result.andThen_ok, Option.isSome]
            rw [run_sliceBound _ h0 hh.1]
            simp
          · cases hb

theorem sim_slice (h : Rel w F m S) {t e z : Nat} (hu : P.underlying t = some (.slice e)) (hsz : sizeT P e = some z) (hz0 : 0 < z) {x v : LV} {ux : Value} (hvx : V w (XX F m S) m x ux)
    {lo hi : Option LV} {lo' hi' : Option Value}
    (h1 : ∀ v, lo = some v → ∃ u, lo' = some u ∧ V w (XX F m S) m v u) (h1n : lo = none → lo' = none) (h2 : ∀ v, hi = some v → ∃ u, hi' = some u ∧ V w (XX F m S) m v u) (h2n : hi = none → hi' = none)
    (hs : aslice z x lo hi none = some v) (hns : ∀ s, x ≠ .str s) : Val G F m S w v S ((Instr.sliceAt t ux lo' hi' none).run P w) := by
  have hrun : ∀ (a : Option Addr) (n c l hh : Nat), (Instr.sliceBounds true n c lo' hi' none).run P w = .ok (l, hh, c) w →
      (Instr.sliceAt t (.slice a n c) lo' hi' none).run P w = .ok (.slice (if c = l then a else a.map (·.add (l * z))) (hh - l) (c - l)) w := by
    intro a n c l hh hb
    simp only [Instr.sliceAt, Sem.run_bind, run_underlying hu, Result.andThen_ok, Instr.slice, hb, sizeOf_run hsz, Sem.run_pure]
  cases x <;> simp only [aslice] at hs <;> try (cases hs; done)
  · exact (hns _ rfl).elim
  · rename_i nil es
    split at hs
    · rename_i hws
      have hws0 := hws.2
      cases hb : bounds es.length lo hi with
      | none => rw [hb] at hs; cases hs
      | some lh =>
        obtain ⟨l, hh⟩ := lh
        rw [hb] at hs
        cases hs
        cases hvx with
        | @sl _ _ _ a n c z' cv hn hc hcm hnil h0 hz' hb' ho1 hvv =>
          subst hn
          have hws : sized z es := by
            cases es with
            | nil => intro v hv; cases hv
            | cons v vs =>
              simp only [headSized, beq_iff_eq] at hws0
              have := hz' v (by simp)
              rw [hws0] at this
              rw [this]; exact hz'
          obtain ⟨hsb, hlh, hhn⟩ := run_sliceBounds (P := P) (w := w) (isS := true) h1 h1n h2 h2n hb hc
          refine Val.same h (hrun a _ c l hh hsb) ?_
          have hlen : ((es.drop l).take (hh - l)).length = hh - l := by simp; omega
          by_cases hp : 0 < hh - l
          · obtain rfl := sized_same hws hz' (by omega)
            have hcl : c ≠ l := by omega
            rw [if_neg hcl]
            obtain ⟨b, o, ea, hx, hlt, hcell⟩ := hb' (by omega)
            subst ea
            have hidx : ∀ q, q < (hh - l) * z → l * z + q < es.length * z := by
              intro q hq
              have : hh * z ≤ es.length * z := Nat.mul_le_mul_right _ hhn
              have e2 : (hh - l) * z = hh * z - l * z := Nat.sub_mul ..
              omega
            refine .sl (z := z) (cv := fun q => cv (l * z + q)) hlen (by omega) (by omega) (by rw [hnil]; simp) (fun e => by have := h0 e; omega) (sized_take hws _ _) (fun _ => ?_) (fun q hq => ho1 _ (hidx q hq)) fun q hq => ?_
            · refine ⟨b, o + l * z, by simp [add_plain], hx, hlt, fun q hq => ?_⟩
              rw [Nat.add_assoc]; exact hcell _ (hidx q hq)
            · have a1 : q / z < hh - l := (Nat.div_lt_iff_lt_mul hz0).2 hq
              have a2 : q % z < z := Nat.mod_lt _ hz0
              have a3 : q = q / z * z + q % z := by have := Nat.div_add_mod q z; rw [Nat.mul_comm] at this; omega
              have e2 : (flat ((es.drop l).take (hh - l))).getD q .undef = (flat es).getD (l * z + q) .undef := by
                conv => lhs; rw [a3]
                rw [flat_getD (sized_take hws _ _) (by rw [hlen]; exact a1) a2, list_getD_drop_take _ _ _ _ _ a1]
                have : l * z + q = (l + q / z) * z + q % z := by rw [Nat.add_mul]; omega
                rw [this, flat_getD hws (by omega) a2]
              rw [e2]; exact hvv _ (hidx q hq)
          · have e0 : (es.drop l).take (hh - l) = [] := by rw [show hh - l = 0 by omega]; simp
            show V w (XX F m S) m (.sl nil ((es.drop l).take (hh - l))) _
            rw [e0]
            refine .sl (z := z) (cv := fun _ => Go.undef) (by simp; omega) (by omega) (by omega) ?_ (fun e => by have := h0 e; omega) (fun v hv => by simp at hv) (fun hp' => by omega) (fun q hq => ?_) fun q hq => ?_
            · rw [hnil]; split <;> cases a <;> simp
            · have : hh - l = 0 := by omega
              rw [this] at hq; omega
            · have : hh - l = 0 := by omega
              rw [this] at hq; omega
    · cases hs
  · rename_i r z' off len
    split at hs
    · rename_i hzz
      obtain ⟨_, rfl⟩ := hzz
      cases hb : bounds len lo hi with
      | none => rw [hb] at hs; cases hs
      | some lh =>
        obtain ⟨l, hh⟩ := lh
        rw [hb] at hs
        cases hs
        cases hvx with
        | @row _ _ _ _ _ b cap o c hm ha hl hc hcm =>
          obtain ⟨hsb, hlh, hhn⟩ := run_sliceBounds (P := P) (w := w) (isS := true) h1 h1n h2 h2n hb hl
          refine Val.same h (hrun _ _ c l hh hsb) ?_
          by_cases hcl : c = l
          · rw [if_pos hcl]
            refine .row hm (fun hpos => ?_) (by omega) (by omega) (by omega)
            rcases hpos with hp | hp
            · omega
            · obtain rfl : l = 0 := by omega
              obtain rfl : off = 0 := by omega
              obtain ⟨e1, e2⟩ := ha (.inr rfl)
              exact ⟨by simpa using e1, by omega⟩
          · rw [if_neg hcl]
            simp only [Option.map_some, add_plain]
            refine .row hm (fun hpos => ?_) (by omega) (by omega) (by omega)
            have hpos' : 0 < len ∨ off = 0 := by
              rcases hpos with hp | hp
              · exact .inl (by omega)
              · exact .inr (by omega)
            obtain ⟨e1, e2⟩ := ha hpos'
            exact ⟨by rw [e1, Nat.add_mul], by omega⟩
    · cases hs

end
end Go.Am
