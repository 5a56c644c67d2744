/- Operations, second part: built rows, slices, places, numbers, conversions. -/
import Derived.Test.YtgafbagehjmipaaBlyO
import Derived.Laws.Shifts
namespace Bly
open Go Go.RowKit

variable {P : Program} {E : Env} {w : World} {φ : Phi} {ρ : Nat → UInt8} {B ng : Nat} {h h' : H}

theorem nth_mem {α} : ∀ (l : List α) (i : Nat) (a : α), nth l i = some a → l[i]? = some a := fun l i a h => by rw [← nth_eq]; exact h

/-! ### Struct, array, slice literals -/
theorem known_inv {t : TypeId} (h : known P t = true) : ∃ i d, P.info? t = some i ∧ P.underlying t = some d := by
  unfold known at h
  simp only [Bool.and_eq_true] at h
  obtain ⟨i, hi⟩ := Option.isSome_iff_exists.1 h.1
  obtain ⟨d, hd⟩ := Option.isSome_iff_exists.1 h.2
  exact ⟨i, d, hi, hd⟩
theorem tkOf_struct {d : TypeDesc} {fs : List (Nat × Nat × Bool)} (hk : tkOf P d = .struct fs) :
    ∃ fields, d = .struct fields ∧ fs = fields.toList.map (fun f => (f.offset, P.cellsOf f.type, aggOf P f.type)) ∧ ∀ f ∈ fields.toList, known P f.type = true := by
  cases d with
  | struct fields =>
    simp only [tkOf] at hk; split at hk
    · rename_i hall; cases hk; exact ⟨fields, rfl, rfl, List.all_eq_true.1 hall⟩
    · cases hk
  | _ => simp only [tkOf] at hk; (try split at hk) <;> cases hk
theorem tkOf_array {d : TypeDesc} {n e esz : Nat} {b : Bool} (hk : tkOf P d = .array n e esz b) :
    d = .array n e ∧ esz = P.cellsOf e ∧ b = aggOf P e ∧ known P e = true := by
  cases d with
  | array m e' =>
    simp only [tkOf] at hk; split at hk
    · rename_i hkn; cases hk; exact ⟨rfl, rfl, rfl, hkn⟩
    · cases hk
  | _ => simp only [tkOf] at hk; (try split at hk) <;> cases hk
theorem tkOf_slice {d : TypeDesc} {e esz eb : Nat} {z : Option (List AV)} (hk : tkOf P d = .slice e esz eb z) :
    d = .slice e ∧ esz = P.cellsOf e ∧ eb = P.bytesOf e ∧ z = zeroOf P e ∧ known P e = true := by
  cases d with
  | slice e' =>
    simp only [tkOf] at hk; split at hk
    · rename_i hkn; cases hk; exact ⟨rfl, rfl, rfl, rfl, hkn⟩
    · cases hk
  | _ => simp only [tkOf] at hk; (try split at hk) <;> cases hk
theorem tkOf_string {d : TypeDesc} (hk : tkOf P d = .string) : d = .string := by
  cases d with
  | string => rfl
  | _ => simp only [tkOf] at hk; (try split at hk) <;> cases hk
theorem tkOf_int {d : TypeDesc} {k : IntKind} (hk : tkOf P d = .int k) : d = .int k := by
  cases d with
  | int k' => simp only [tkOf] at hk; cases hk; rfl
  | _ => simp only [tkOf] at hk; (try split at hk) <;> cases hk
theorem tkOf_ptrArr {d : TypeDesc} {n : Nat} (hk : tkOf P d = .ptrArr n) : ∃ e e', d = .pointer e ∧ P.underlying e = some (.array n e') := by
  cases d with
  | pointer e =>
    simp only [tkOf] at hk; split at hk
    · rename_i m e' he; cases hk; exact ⟨e, e', rfl, he⟩
    · cases hk
  | _ => simp only [tkOf] at hk; (try split at hk) <;> cases hk
theorem tkOf_map {d : TypeDesc} {kk : Nat} {z : Option AV} (hk : tkOf P d = .map kk z) : ∃ k e, d = .map k e ∧ kk = keyKind P k ∧ z = zero1Of P e ∧ known P k = true ∧ known P e = true := by
  cases d with
  | map k e =>
    simp only [tkOf] at hk; split at hk
    · rename_i hkn; simp only [Bool.and_eq_true] at hkn; cases hk; exact ⟨k, e, rfl, rfl, rfl, hkn.1, hkn.2⟩
    · cases hk
  | _ => simp only [tkOf] at hk; (try split at hk) <;> cases hk

/-- The sizes of a struct's fields, one by one. -/
theorem run_places {P : Program} {w : World} : ∀ (fs : List Field), (∀ f ∈ fs, (P.info? f.type).isSome = true) →
    (fs.mapM fun f => do pure (f.offset, ← Go.sizeOf f.type) : Sem (List (Nat × Nat))).run P w = .ok (fs.map fun f => (f.offset, P.cellsOf f.type)) w
  | [], _ => rfl
  | f :: fs, hf => by
    obtain ⟨i, hi⟩ := Option.isSome_iff_exists.1 (hf f (by simp))
    have ih := run_places (P := P) (w := w) fs (fun g hg => hf g (by simp [hg]))
    simp only [List.mapM_cons, Sem.run_bind, run_sz hi, Result.andThen_ok, Sem.run_pure, ih, List.map_cons, cellsOf_eq hi]

theorem build_fits (hw : WR B ng φ ρ h w) {t : TypeId} {ti : TI} (ht : tiOf P t = some ti) {parts : List (Nat × AV)} {parts' : Array (Nat × Value)} (hp : PartsR φ ρ parts parts'.toList)
    {v : AV} (hb : buildA ti parts = some v) : Fits P B ng φ ρ w h v (Instr.build t parts') := by
  obtain ⟨i, d, hi, hd, h1, h2, h3, h4, h5⟩ := tiOf_inv ht
  unfold buildA at hb
  split at hb
  · rename_i z hz
    rw [h3] at hz
    obtain ⟨i', zv, hi', hzv, hvr, hok⟩ := zeroOf_inv hz φ ρ
    rw [hi] at hi'; cases hi'
    have hlen : z.length = ti.zlen := by rw [h4, hz]; rfl
    split at hb
    · rename_i fs hk
      rw [h5] at hk
      obtain ⟨fields, rfl, rfl, hkn⟩ := tkOf_struct hk
      split at hb
      · rename_i cs hf
        cases hb
        obtain ⟨cs', h6, h7, h8, h9⟩ := fill_fits (place := fieldPlaceA _) _ _ _ zv.cells cs hp hvr hlen hok hf
        refine .pure (v' := .agg cs') hw ?_ (by have := VR.agg h7 h9; simpa using this)
        have hpl := run_places (P := P) (w := w) fields.toList (fun f hf => by obtain ⟨i, _, hi, _⟩ := known_inv (hkn f hf); rw [hi]; rfl)
        have hplace : (fun i => ((fields.toList.map fun f => (f.offset, P.cellsOf f.type)).toArray)[i]?) = fieldPlaceA (fields.toList.map fun f => (f.offset, P.cellsOf f.type, aggOf P f.type)) := by
          funext i
          unfold fieldPlaceA
          rw [nth_eq]
          simp only [List.getElem?_toArray, List.getElem?_map]
          cases fields.toList[i]? <;> rfl
        simp only [Instr.build, Sem.run_bind, run_zero hi hzv, Result.andThen_ok, run_underlying hd, Array.mapM_eq_mapM_toList, Sem.run_map, hpl]
        rw [hplace, h6]
        rfl
      · cases hb
    · rename_i n e esz eagg hk
      rw [h5] at hk
      obtain ⟨rfl, rfl, rfl, hkn⟩ := tkOf_array hk
      obtain ⟨ie, _, hie, _⟩ := known_inv hkn
      split at hb
      · rename_i cs hf
        cases hb
        rw [cellsOf_eq hie] at hf
        obtain ⟨cs', h6, h7, h8, h9⟩ := fill_fits (place := fun i => some (i * ie.size, ie.size)) _ _ _ zv.cells cs hp hvr hlen hok hf
        refine .pure (v' := .agg cs') hw ?_ (by have := VR.agg h7 h9; simpa using this)
        simp only [Instr.build, Sem.run_bind, run_zero hi hzv, Result.andThen_ok, run_underlying hd, run_sz hie, h6]
        rfl
      · cases hb
    · cases hb
  · cases hb
theorem copies_get {α} (z : List α) : ∀ (n i : Nat), i < n * z.length → (copies n z)[i]? = z[i % z.length]?
  | 0, i, h => by simp at h
  | n+1, i, h => by
    simp only [copies]
    by_cases hi : i < z.length
    · rw [List.getElem?_append_left hi, Nat.mod_eq_of_lt hi]
    · rw [List.getElem?_append_right (by omega), copies_get z n (i - z.length) (by rw [Nat.succ_mul] at h; omega)]
      congr 1
      exact (Nat.mod_eq_sub_mod (by omega)).symm
theorem zeros_eq (zs : Array Value) (n : Nat) (hz : 0 < zs.size) : ((Array.range (n * zs.size)).map fun i => zs[i % zs.size]!) = (copies n zs.toList).toArray := by
  apply Array.ext'
  apply List.ext_getElem?
  intro i
  by_cases hi : i < n * zs.size
  · have hm : i % zs.size < zs.size := Nat.mod_lt _ hz
    rw [copies_get _ n i (by simpa using hi)]
    simp [hi, hm]
  · have h1 : (copies n zs.toList).length = n * zs.size := by rw [copies_length]; simp
    rw [List.getElem?_eq_none (by simp; omega), List.getElem?_eq_none (by simp only; omega)]
theorem buildSlice_fits (hw : WR B ng φ ρ h w) {t : TypeId} {k : TK} {d : TypeDesc} (hd : P.underlying t = some d) (hk : tkOf P d = k) {len : Nat} {parts : List (Nat × AV)} {parts' : Array (Nat × Value)} (hp : PartsR φ ρ parts parts'.toList)
    {v : AV} (hb : buildSliceA k len parts h = some (v, h')) : Fits P B ng φ ρ w h' v (Instr.buildSlice t len parts') := by
  unfold buildSliceA at hb
  split at hb
  · rename_i e esz eb z
    obtain ⟨rfl, rfl, rfl, hz, hkn⟩ := tkOf_slice hk
    split at hb
    · rename_i hb1 hb2 hb3
      have hb1 := Nat.eq_of_beq_eq_true hb1
      have hb2 := blt_true.1 hb2
      have hb3 := Nat.le_of_ble_eq_true hb3
      obtain ⟨i, zv, hi, hzv, hvr, hok⟩ := zeroOf_inv hz.symm φ ρ
      rw [cellsOf_eq hi] at hb1 hb2 hb3 hb
      have hzs : zv.cells.size = i.size := by have := hvr.length; simp at this; omega
      split at hb
      · rename_i cs hf
        split at hb
        · rename_i b h1 hn
          cases hb
          obtain ⟨cs', h6, h7, h8, h9⟩ := fill_fits (place := fun j => some (j * i.size, i.size)) _ _ _ (copies len zv.cells.toList).toArray cs hp (by simpa using hvr.copies len)
            (by rw [copies_length, hb1]) (fun c hc => hok c (copies_mem _ _ _ hc)) hf
          obtain ⟨φ', hb', hst, hwr⟩ := new_row (e := e) hw hn h7 h8 h9 []
          refine ⟨.slice (some ⟨w.heap.size, 0, none⟩) len len, w.alloc (.cells cs' e), φ', ?_, by simpa using hst, by simpa using hwr, ?_⟩
          · have hle : ¬ (len * i.size > 2 ^ 24) := by omega
            by_cases h0 : len * i.size = 0
            · have : len = 0 := by rcases Nat.mul_eq_zero.1 h0 with h | h; exact h; omega
              subst this
              have hr0 : Array.range 0 = #[] := rfl
              simp only [copies] at h6
              simp [Instr.buildSlice, run_underlying hd, run_sz hi, h6, newRow, hr0]
            · have hz0 := zeros_eq zv.cells len (by omega)
              rw [hzs] at hz0
              simp only [Instr.buildSlice, Sem.run_bind, run_underlying hd, Result.andThen_ok, run_sz hi, hle, if_false, if_neg h0, run_zero hi hzv, Sem.run_pure, Sem.run_ite]
              rw [hzs, hz0, h6]
              simp [newRow]
          · refine .slice hb' (.inl ⟨rfl, Nat.le_refl _, ?_⟩)
            have := h7.length; rw [h8] at this; simp at this ⊢; omega
        · cases hb
      · cases hb
    · cases hb
  · cases hb
theorem natOf_inv {a : AV} {v : Value} {n : Nat} (hv : VR φ ρ a v) (hn : natOf a = some n) : ∃ k, a = .int k n ∧ v = .int k n := by
  unfold natOf at hn
  split at hn
  · rename_i k m
    cases hn
    cases hv
    exact ⟨k, rfl, rfl⟩
  · cases hn
theorem wrap_nat {n : Nat} (h : n < 9223372036854775808) : IntKind.i64.wrap (n : Int) = n := by
  simp only [IntKind.wrap, IntKind.bits, IntKind.signed]
  have : (n : Int) % 2 ^ 64 = n := by omega
  simp only [this]
  simp; omega
theorem makeSlice_fits (hw : WR B ng φ ρ h w) {t : TypeId} {k : TK} {d : TypeDesc} (hd : P.underlying t = some d) (hk : tkOf P d = k) {l c : AV} {l' c' : Value} (hl : VR φ ρ l l') (hc : VR φ ρ c c')
    {v : AV} (hb : makeSliceA k l c h = some (v, h')) : Fits P B ng φ ρ w h' v (Instr.makeSlice t l' c') := by
  unfold makeSliceA at hb
  split at hb
  · rename_i e esz eb z ln cn hln hcn
    obtain ⟨rfl, rfl, rfl, hz, hkn⟩ := tkOf_slice hk
    obtain ⟨k1, rfl, rfl⟩ := natOf_inv hl hln
    obtain ⟨k2, rfl, rfl⟩ := natOf_inv hc hcn
    split at hb
    · rename_i hb1 hb2 hb3 hb4 hb5
      have hb1 := Nat.eq_of_beq_eq_true hb1
      have hb2 := blt_true.1 hb2
      have hb3 := Nat.le_of_ble_eq_true hb3
      have hb4 := Nat.le_of_ble_eq_true hb4
      have hb5 := Nat.le_of_ble_eq_true hb5
      obtain ⟨i, zv, hi, hzv, hvr, hok⟩ := zeroOf_inv hz.symm φ ρ
      rw [cellsOf_eq hi] at hb1 hb2 hb
      rw [bytesOf_eq hi] at hb4
      have hzs : zv.cells.size = i.size := by have := hvr.length; simp at this; omega
      split at hb
      · rename_i b h1 hn
        cases hb
        obtain ⟨φ', hb', hst, hwr⟩ := new_row (e := e) hw hn (hvr.copies cn) (by rw [copies_length, hb1]) (fun c hc => hok c (copies_mem _ _ _ hc)) []
        refine ⟨.slice (some ⟨w.heap.size, 0, none⟩) ln cn, w.alloc (.cells (copies cn zv.cells.toList).toArray e), φ', ?_, by simpa using hst, by simpa using hwr, ?_⟩
        · have hl1 : IntKind.i64.wrap (ln : Int) = ln := wrap_nat (by omega)
          have hc1 : IntKind.i64.wrap (cn : Int) = cn := wrap_nat (by omega)
          have hby : ¬ ((i.bytes : Int) * (cn : Int) > 2 ^ 48) := by
            have : ((cn * i.bytes : Nat) : Int) ≤ ((1099511627776 : Nat) : Int) := Int.ofNat_le.2 hb4
            rw [Int.natCast_mul, Int.mul_comm] at this
            omega
          have hcond : ((decide ((cn : Int) < 0) || decide ((i.bytes : Int) * (cn : Int) > 2 ^ 48)) || decide ((ln : Int) < 0) || decide ((ln : Int) > (cn : Int))) = false := by
            simp only [Bool.or_eq_false_iff, decide_eq_false_iff_not]
            exact ⟨⟨⟨by omega, hby⟩, by omega⟩, by omega⟩
          simp only [Instr.makeSlice, Sem.run_bind, run_underlying hd, Result.andThen_ok, asInt, asIntOf, Sem.run_pure, run_ti hi, hl1, hc1]
          simp only [Int.toNat_natCast]
          rw [if_neg (by rw [hcond]; exact Bool.false_ne_true)]
          by_cases h0 : cn * i.size = 0
          · have : cn = 0 := by rcases Nat.mul_eq_zero.1 h0 with h | h; exact h; omega
            subst this
            have hr0 : Array.range 0 = #[] := rfl
            simp [run_sz hi, newRow, copies, hr0]
          · have hz0 := zeros_eq zv.cells cn (by omega)
            rw [hzs] at hz0
            simp only [Sem.run_bind, run_askRoom, Result.andThen_ok, run_sz hi, if_neg h0, run_zero hi hzv, Sem.run_pure, Sem.run_ite]
            rw [hzs, hz0]
            simp [newRow]
        · refine .slice hb' (.inl ⟨rfl, hb3, ?_⟩)
          simp [copies_length, hzs]
      · cases hb
    · cases hb
  · cases hb

/-! ### Slices -/
theorem optNat_inv {o : Option Operand} {r : Operand → AV} {r' : Operand → Value} (hr : ∀ x, VR φ ρ (r x) (r' x)) {d n : Nat} (ho : optNat (o.map r) d = some n) :
    (o = none ∧ n = d) ∨ ∃ x k, o = some x ∧ r' x = .int k n := by
  cases o with
  | none => simp [optNat] at ho; exact .inl ⟨rfl, ho.symm⟩
  | some x =>
    simp only [Option.map_some, optNat] at ho
    obtain ⟨k, _, h2⟩ := natOf_inv (hr x) ho
    exact .inr ⟨x, k, rfl, h2⟩
theorem run_sliceBound {k : IntKind} {n y : Nat} {c : BoundsCode} (h : n ≤ y) : (Instr.sliceBound (.int k n) y c).run P w = .ok n w := by
  have : (0 : Int) ≤ n ∧ (n : Int) ≤ y := by omega
  simp [Instr.sliceBound, asIntOf, this]
/-- The bounds of a slice expression; mx: only with hi. -/
theorem run_bounds {isSlice : Bool} {len cap : Nat} (hle : len ≤ cap) {lo hi mx : Option Operand} {r : Operand → AV} {r' : Operand → Value} (hr : ∀ x, VR φ ρ (r x) (r' x)) {l u : Nat}
    (hmx : ¬ (mx.isSome = true ∧ hi.isNone = true)) (hb : boundsA len (lo.map r) (hi.map r) (mx.map r) = some (l, u)) :
    ∃ m, (Instr.sliceBounds isSlice len cap (lo.map r') (hi.map r') (mx.map r')).run P w = .ok (l, u, m) w ∧ l ≤ u ∧ u ≤ len ∧ u ≤ m ∧ m ≤ cap := by
  unfold boundsA at hb
  split at hb
  · rename_i m hm
    split at hb
    · rename_i h hh hml
      have hml := Nat.le_of_ble_eq_true hml
      split at hb
      · rename_i l0 hl0 hhm
        have hhm := Nat.le_of_ble_eq_true hhm
        split at hb
        · rename_i hlh
          have hlh := Nat.le_of_ble_eq_true hlh
          cases hb
          have f1 : u ≤ len := by omega
          have f2 : u ≤ cap := by omega
          have f3 : m ≤ cap := by omega
          have f4 : len ≤ cap := hle
          rcases optNat_inv hr hm with ⟨rfl, rfl⟩ | ⟨x, kx, rfl, hx⟩ <;> rcases optNat_inv hr hh with ⟨rfl, rfl⟩ | ⟨y, ky, rfl, hy⟩
          · refine ⟨cap, ?_, hlh, f1, f2, Nat.le_refl _⟩
            rcases optNat_inv hr hl0 with ⟨rfl, rfl⟩ | ⟨z, kz, rfl, hz⟩ <;> simp [Instr.sliceBounds, run_sliceBound, *]
          · refine ⟨cap, ?_, hlh, f1, f2, Nat.le_refl _⟩
            rcases optNat_inv hr hl0 with ⟨rfl, rfl⟩ | ⟨z, kz, rfl, hz⟩ <;> simp [Instr.sliceBounds, run_sliceBound, *]
          · exact absurd ⟨rfl, rfl⟩ hmx
          · refine ⟨m, ?_, hlh, f1, hhm, f3⟩
            rcases optNat_inv hr hl0 with ⟨rfl, rfl⟩ | ⟨z, kz, rfl, hz⟩ <;> simp [Instr.sliceBounds, run_sliceBound, *]
        · cases hb
      · cases hb
    · cases hb
  · cases hb
theorem addr_off {a : Addr} {b o n : Nat} (h : a = ⟨b, o, none⟩) : a.add n = ⟨b, o + n, none⟩ := by rw [h]; exact addr_add _ _ _
theorem slice_fits (hw : WR B ng φ ρ h w) {t : TypeId} {k : TK} {d : TypeDesc} (hd : P.underlying t = some d) (hk : tkOf P d = k) {x : AV} {x' : Value} (hx : VR φ ρ x x')
    {lo hi mx : Option Operand} {r : Operand → AV} {r' : Operand → Value} (hr : ∀ x, VR φ ρ (r x) (r' x))
    {v : AV} (hb : sliceA h k x (lo.map r) (hi.map r) (mx.map r) = some v) : Fits P B ng φ ρ w h v (Instr.sliceAt t x' (lo.map r') (hi.map r') (mx.map r')) := by
  unfold sliceA at hb
  split at hb
  · cases hb
  · rename_i hmx
    have hmx : ¬ (mx.isSome = true ∧ hi.isNone = true) := by simpa using hmx
    split at hb
    · rename_i n e esz ea b off
      obtain ⟨rfl, rfl, rfl, hkn⟩ := tkOf_array hk
      obtain ⟨ie, _, hie, _⟩ := known_inv hkn
      split at hb
      · rename_i l u cs mm rw hbd hg
        split at hb
        · rename_i hfit
          have hfit := Nat.le_of_ble_eq_true hfit
          cases hb
          cases hx with
          | ptr hp =>
            rename_i p
            obtain ⟨m, hrun, h1, h2, h3, h4⟩ := run_bounds (P := P) (w := w) (isSlice := false) (Nat.le_refl n) hr hmx hbd
            obtain ⟨p', _, hp', hlen, hfit', _⟩ := hw.cellsAt hg
            rw [hp] at hp'; cases hp'
            refine .pure (v' := .slice (some (if m = l then ⟨p.blk, p.sh + off, none⟩ else (⟨p.blk, p.sh + off, none⟩ : Addr).add (l * ie.size))) (u - l) (m - l)) hw ?_ ?_
            · simp only [Instr.sliceAt, Instr.sureAddr, Sem.run_bind, run_underlying hd, Result.andThen_ok, hrun, run_sz hie, Sem.run_pure]
            · by_cases hml : m = l
              · rw [if_pos hml]
                refine .slice hp (.inr ⟨by omega, by omega⟩)
              · rw [if_neg hml]
                refine .slice hp (.inl ⟨?_, by omega, ?_⟩)
                · rw [addr_add, cellsOf_eq hie]; congr 1; omega
                · rw [cellsOf_eq hie] at hfit ⊢
                  have : l * ie.size + (m - l) * ie.size ≤ n * ie.size := by rw [← Nat.add_mul]; exact Nat.mul_le_mul_right _ (by omega)
                  omega
        · cases hb
      · cases hb
    · rename_i e esz eb z b off len esz'
      obtain ⟨rfl, rfl, rfl, hz, hkn⟩ := tkOf_slice hk
      obtain ⟨ie, _, hie, _⟩ := known_inv hkn
      split at hb
      · rename_i l u hbd hesz
        have hesz := Nat.eq_of_beq_eq_true hesz
        subst hesz
        cases hb
        cases hx with
        | slice hp hs =>
          rename_i p a cap
          have hlc : len ≤ cap := by rcases hs with ⟨_, h, _⟩ | ⟨h, h'⟩ <;> omega
          obtain ⟨m, hrun, h1, h2, h3, h4⟩ := run_bounds (P := P) (w := w) (isSlice := true) hlc hr hmx hbd
          refine .pure (v' := .slice (if m = l then some a else some (a.add (l * ie.size))) (u - l) (m - l)) hw ?_ ?_
          · simp only [Instr.sliceAt, Sem.run_bind, run_underlying hd, Result.andThen_ok, Instr.slice, hrun, run_sz hie, Sem.run_pure]
            split <;> rfl
          · by_cases hml : m = l
            · rw [if_pos hml]
              refine .slice hp (.inr ⟨by omega, by omega⟩)
            · rw [if_neg hml]
              rcases hs with ⟨rfl, _, hfit⟩ | ⟨h0, h0'⟩
              · refine .slice hp (.inl ⟨?_, by omega, ?_⟩)
                · rw [addr_add, cellsOf_eq hie]; congr 1; omega
                · rw [cellsOf_eq hie] at hfit ⊢
                  have : l * ie.size + (m - l) * ie.size ≤ cap * ie.size := by rw [← Nat.add_mul]; exact Nat.mul_le_mul_right _ (by omega)
                  omega
              · omega
      · cases hb
    · rename_i e esz eb z
      obtain ⟨rfl, rfl, rfl, hz, hkn⟩ := tkOf_slice hk
      obtain ⟨ie, _, hie, _⟩ := known_inv hkn
      split at hb
      · rename_i lu hbd
        obtain ⟨l, u⟩ := lu
        cases hb
        cases hx
        obtain ⟨m, hrun, h1, h2, h3, h4⟩ := run_bounds (P := P) (w := w) (isSlice := true) (Nat.le_refl 0) hr hmx hbd
        refine .pure (v' := .slice none 0 0) hw ?_ .nils
        have e1 : l = 0 := by omega
        have e2 : u = 0 := by omega
        have e3 : m = 0 := by omega
        subst e1; subst e2; subst e3
        simp only [Instr.sliceAt, Sem.run_bind, run_underlying hd, Result.andThen_ok, Instr.slice, hrun, run_sz hie, Sem.run_pure]
        rfl
      · cases hb
    · rename_i s
      have := tkOf_string hk; subst this
      split at hb
      · cases hb
      · rename_i hmx'
        split at hb
        · rename_i l u hbd
          cases hb
          cases hx with
          | str hs hsb =>
            rename_i s'
            have hlen : s.length = s'.size := by have := hs.length; simpa using this
            have hmn : mx = none := by cases mx with | none => rfl | some _ => simp at hmx'
            subst hmn
            rw [hlen] at hbd
            obtain ⟨m, hrun, h1, h2, h3, h4⟩ := run_bounds (P := P) (w := w) (isSlice := false) (Nat.le_refl s'.size) hr hmx hbd
            refine .pure (v' := .string (s'.extract l u)) hw ?_ ?_
            · simp only [Option.map_none] at hrun
              simp [Instr.sliceAt, run_underlying hd, Instr.slice, hrun]
            · refine .str ?_ (fun c hc => hsb c (List.mem_of_mem_drop (List.mem_of_mem_take hc)))
              have e1 : (s'.extract l u).data.toList.map bv = ((s'.data.toList.map bv).drop l).take (u - l) := by
                simp [ByteArray.data_extract, List.map_take, List.map_drop]
              rw [e1]
              exact (hs.drop l).take _
        · cases hb
    · cases hb

/-! ### Places -/
theorem fieldAddr_fits (hw : WR B ng φ ρ h w) {t : TypeId} {k : TK} {d : TypeDesc} (hd : P.underlying t = some d) (hk : tkOf P d = k) {x : AV} {x' : Value} (hx : VR φ ρ x x') {f : Nat}
    {v : AV} (hb : fieldAddrA k x f = some v) : Fits P B ng φ ρ w h v (Instr.fieldAt t x' f) := by
  unfold fieldAddrA at hb
  split at hb
  · rename_i fs b off
    obtain ⟨fields, rfl, rfl, hkn⟩ := tkOf_struct hk
    split at hb
    · rename_i o s a hn
      split at hb
      · rename_i hs
        have hs := blt_true.1 hs
        cases hb
        cases hx with
        | ptr hp =>
          rename_i p
          rw [nth_eq, List.getElem?_map] at hn
          cases hf : fields.toList[f]? with
          | none => simp [hf] at hn
          | some fd =>
            simp only [hf, Option.map_some, Option.some.injEq, Prod.mk.injEq] at hn
            obtain ⟨rfl, rfl, rfl⟩ := hn
            obtain ⟨ie, _, hie, _⟩ := known_inv (hkn fd (List.mem_of_getElem? hf))
            rw [cellsOf_eq hie] at hs
            have hfa : fields[f]? = some fd := by simpa using hf
            have hs' : ¬ ie.size = 0 := by omega
            refine .pure (v' := .pointer (some ((⟨p.blk, p.sh + off, none⟩ : Addr).add fd.offset))) hw ?_ ?_
            · simp [Instr.fieldAt, run_underlying hd, hfa, Instr.sureAddr, fieldPlace, run_sz hie, hs']
            · rw [addr_add, Nat.add_assoc]; exact .ptr hp
      · cases hb
    · cases hb
  · cases hb
theorem aggOf_eq {t : TypeId} {d : TypeDesc} (hd : P.underlying t = some d) : aggOf P t = isAggD d := by simp [aggOf, hd]
theorem part_fits (hw : WR B ng φ ρ h w) {t : TypeId} (hkn : known P t = true) {cs : List AV} {vs : List Value} (hv : VRs φ ρ cs vs) (hok : ∀ c ∈ cs, okCell c = true) {off : Nat} {v : AV}
    (hp : partA cs off (P.cellsOf t) (aggOf P t) = some v) : Fits P B ng φ ρ w h v (part t vs.toArray off) := by
  obtain ⟨i, d, hi, hd⟩ := known_inv hkn
  rw [aggOf_eq hd, cellsOf_eq hi] at hp
  unfold partA at hp
  split at hp
  · rename_i hagg
    split at hp
    · rename_i hle
      have hle := Nat.le_of_ble_eq_true hle
      cases hp
      refine .pure (v' := .agg ((vs.drop off).take i.size).toArray) hw ?_ (.agg ((hv.drop off).take _) (fun c hc => hok c (List.mem_of_mem_drop (List.mem_of_mem_take hc))))
      simp only [part, Sem.run_bind, run_isAgg hd, hagg, Result.andThen_ok, if_true, run_sz hi, Sem.run_pure]
      congr 2
      apply Array.ext'
      simp
    · cases hp
  · rename_i hagg
    obtain ⟨v', hv', hvr⟩ := hv.nth hp
    refine .pure (v' := v') hw ?_ hvr
    have : vs.toArray[off]? = some v' := by simpa using hv'
    simp only [part, Sem.run_bind, run_isAgg hd, hagg, Result.andThen_ok, this]
    rfl
theorem field_fits (hw : WR B ng φ ρ h w) {t : TypeId} {k : TK} {d : TypeDesc} (hd : P.underlying t = some d) (hk : tkOf P d = k) {x : AV} {x' : Value} (hx : VR φ ρ x x') {f : Nat}
    {v : AV} (hb : fieldA k x f = some v) : Fits P B ng φ ρ w h v (Instr.field t x' f) := by
  unfold fieldA at hb
  split at hb
  · rename_i fs cs
    obtain ⟨fields, rfl, rfl, hkn⟩ := tkOf_struct hk
    split at hb
    · rename_i o s a hn
      rw [nth_eq, List.getElem?_map] at hn
      cases hf : fields.toList[f]? with
      | none => simp [hf] at hn
      | some fd =>
        simp only [hf, Option.map_some, Option.some.injEq, Prod.mk.injEq] at hn
        obtain ⟨rfl, rfl, rfl⟩ := hn
        have hfa : fields[f]? = some fd := by simpa using hf
        cases hx with
        | agg hv hok =>
          obtain ⟨v', w', φ', h1, h2⟩ := part_fits (P := P) hw (hkn fd (List.mem_of_getElem? hf)) hv hok hb
          refine ⟨v', w', φ', ?_, h2⟩
          simp [Instr.field, run_underlying hd, hfa, asAgg, h1]
    · cases hb
  · cases hb
theorem indexAddr_fits (hw : WR B ng φ ρ h w) {t : TypeId} {k : TK} {d : TypeDesc} (hd : P.underlying t = some d) (hk : tkOf P d = k) {x i : AV} {x' i' : Value} (hx : VR φ ρ x x') (hi : VR φ ρ i i')
    {v : AV} (hb : indexAddrA k x i = some v) : Fits P B ng φ ρ w h v (Instr.indexAt t x' i') := by
  unfold indexAddrA at hb
  split at hb
  · rename_i n hn
    obtain ⟨ki, rfl, rfl⟩ := natOf_inv hi hn
    split at hb
    · rename_i e esz eb z b off len esz'
      obtain ⟨rfl, rfl, rfl, hz, hkn⟩ := tkOf_slice hk
      obtain ⟨ie, _, hie, _⟩ := known_inv hkn
      split at hb
      · rename_i hlt hesz
        have hlt := blt_true.1 hlt
        have hesz := Nat.eq_of_beq_eq_true hesz
        subst hesz
        cases hb
        cases hx with
        | slice hp hs =>
          rename_i p a cap
          rcases hs with ⟨rfl, _, hfit⟩ | ⟨h0, _⟩
          · refine .pure (v' := .pointer (some ((⟨p.blk, p.sh + off, none⟩ : Addr).add (n * ie.size)))) hw ?_ ?_
            · have : (0 : Int) ≤ n ∧ (n : Int) < len := by omega
              simp [Instr.indexAt, asIntOf, run_underlying hd, this, run_sz hie]
              intro hle; omega
            · rw [addr_add, Nat.add_assoc, cellsOf_eq hie]; exact .ptr hp
          · omega
      · cases hb
    · rename_i m e esz ea b off
      obtain ⟨rfl, rfl, rfl, hkn⟩ := tkOf_array hk
      obtain ⟨ie, _, hie, _⟩ := known_inv hkn
      split at hb
      · rename_i hlt
        have hlt := blt_true.1 hlt
        cases hb
        cases hx with
        | ptr hp =>
          rename_i p
          refine .pure (v' := .pointer (some ((⟨p.blk, p.sh + off, none⟩ : Addr).add (n * ie.size)))) hw ?_ ?_
          · have : (0 : Int) ≤ n ∧ (n : Int) < m := by omega
            simp [Instr.indexAt, Instr.sureAddr, asIntOf, run_underlying hd, this, run_sz hie]
            intro hle; omega
          · rw [addr_add, Nat.add_assoc, cellsOf_eq hie]; exact .ptr hp
      · cases hb
    · cases hb
  · cases hb
theorem index_fits (hw : WR B ng φ ρ h w) {t : TypeId} {k : TK} {d : TypeDesc} (hd : P.underlying t = some d) (hk : tkOf P d = k) {x i : AV} {x' i' : Value} (hx : VR φ ρ x x') (hi : VR φ ρ i i')
    {v : AV} (hb : indexA k x i = some v) : Fits P B ng φ ρ w h v (Instr.index t x' i') := by
  unfold indexA at hb
  split at hb
  · rename_i n hn
    obtain ⟨ki, rfl, rfl⟩ := natOf_inv hi hn
    split at hb
    · rename_i m e esz ea cs
      obtain ⟨rfl, rfl, rfl, hkn⟩ := tkOf_array hk
      obtain ⟨ie, _, hie, _⟩ := known_inv hkn
      split at hb
      · rename_i hlt
        have hlt := blt_true.1 hlt
        cases hx with
        | agg hv hok =>
          obtain ⟨v', w', φ', h1, h2⟩ := part_fits (P := P) hw hkn hv hok hb
          refine ⟨v', w', φ', ?_, h2⟩
          have : (0 : Int) ≤ n ∧ (n : Int) < m := by omega
          rw [cellsOf_eq hie] at h1
          simp [Instr.index, asIntOf, run_underlying hd, this, run_sz hie, h1]
          intro hle; omega
      · cases hb
    · rename_i s
      have := tkOf_string hk; subst this
      cases hx with
      | str hs hsb =>
        rename_i s'
        obtain ⟨v', hv', hvr⟩ := hs.nth hb
        rw [List.getElem?_map] at hv'
        cases hsb : s'.data.toList[n]? with
        | none => simp [hsb] at hv'
        | some c =>
          simp only [hsb, Option.map_some, Option.some.injEq] at hv'
          subst hv'
          refine .pure (v' := bv c) hw ?_ hvr
          have h0 : (0 : Int) ≤ n := by omega
          have hsb' : s'[n]? = some c := by
            have hlt : n < s'.data.toList.length := (List.getElem?_eq_some_iff.1 hsb).1
            have he := (List.getElem?_eq_some_iff.1 hsb).2
            have hlt' : n < s'.size := by simpa using hlt
            rw [getElem?_pos s' n hlt']
            congr 1
          simp only [Instr.index, asIntOf, Sem.run_bind, Sem.run_pure, Result.andThen_ok, run_underlying hd, h0, if_true, Int.toNat_natCast, hsb']
          rfl
    · cases hb
  · cases hb
theorem nilCheck_fits {x v : AV} {x' : Value} (hx : VR φ ρ x x') (hb : nilCheckA x h = some (v, h')) :
    v = x ∧ h' = h ∧ ((∃ a, x' = .pointer (some a)) ∨ (∃ f cs, x' = .func (.func f) #[] cs) ∨ (∃ l, x' = .func (.yield l) #[] #[])) := by
  cases x <;> simp [nilCheckA] at hb
  · obtain ⟨rfl, rfl⟩ := hb; cases hx with | ptr hp => exact ⟨rfl, rfl, .inl ⟨_, rfl⟩⟩
  · obtain ⟨rfl, rfl⟩ := hb; cases hx with | fn hp => exact ⟨rfl, rfl, .inr (.inl ⟨_, _, rfl⟩)⟩
  · obtain ⟨rfl, rfl⟩ := hb; cases hx with | yld hp => exact ⟨rfl, rfl, .inr (.inr ⟨_, rfl⟩)⟩
end Bly
