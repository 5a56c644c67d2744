/- Operations: their runs by the abstract ones. First part: memory, numbers. -/
import Derived.Test.YtgafbagehjmipaaBlyS
namespace Bly
open Go Go.RowKit

structure EnvOK (P : Program) (E : Env) : Prop where
  ty : ∀ t ti, E.ti t = some ti → tiOf P t = some ti
  fn : ∀ f F, E.func f = some F → P.funcs[f]? = some F

variable {P : Program} {E : Env} {w : World} {φ : Phi} {ρ : Nat → UInt8} {B ng : Nat} {h h' : H}

/-- s comes to a value that v tells, in a world that h' tells. -/
def Fits (P : Program) (B ng : Nat) (φ : Phi) (ρ : Nat → UInt8) (w : World) (h' : H) (v : AV) (s : Sem Value) : Prop :=
  ∃ v' w' φ', s.run P w = .ok v' w' ∧ Step B φ w φ' w' ∧ WR B ng φ' ρ h' w' ∧ VR φ' ρ v v'
theorem Fits.pure (hw : WR B ng φ ρ h w) {v : AV} {v' : Value} {s : Sem Value} (hs : s.run P w = .ok v' w) (hv : VR φ ρ v v') : Fits P B ng φ ρ w h v s :=
  ⟨v', w, φ, hs, .refl B φ w, hw, hv⟩

theorem byteAV_isByte (b : UInt8) : isByte (byteAV b) = true := by
  show Nat.blt b.toNat 256 = true
  exact blt_true.2 b.toNat_lt
theorem isByte_ok {c : AV} (h : isByte c = true) : okCell c = true := by
  unfold isByte at h; split at h <;> first | rfl | cases h
theorem ofConst1_ok (v : Value) : VR φ ρ (ofConst1 v) v := by
  unfold ofConst1
  split
  · exact .bool _
  · exact .int _ _
  · refine .str (VRs.map byteAV bv (fun b => .int _ _) _) (fun c hc => ?_)
    obtain ⟨b, _, rfl⟩ := List.mem_map.1 hc
    exact byteAV_isByte b
  · exact .nilp
  · exact .nils
  · exact .nilm
  · exact .nilf
  · exact .nili
  · exact .bad _
  · exact .bad _
  · refine .any ?_
    cases v <;> simp_all [oneC]
theorem ofConst_ok (v : Value) : VR φ ρ (ofConst v) v := by
  unfold ofConst
  split
  · rename_i cs
    split
    · rename_i hall
      have h1 : VRs φ ρ (cs.toList.map ofConst1) (cs.toList.map id) := VRs.map _ _ (fun x => ofConst1_ok x) _
      have := VR.agg (φ := φ) (ρ := ρ) (by simpa using h1) (fun c hc => by
        obtain ⟨x, hx, rfl⟩ := List.mem_map.1 hc
        exact List.all_eq_true.1 hall x hx)
      simpa using this
    · exact .bad _
  · exact ofConst1_ok v
theorem tiOf_inv {t : TypeId} {ti : TI} (ht : tiOf P t = some ti) :
    ∃ i d, P.info? t = some i ∧ P.underlying t = some d ∧ ti.size = i.size ∧ ti.agg = isAggD d ∧ ti.zero = zeroOf P t ∧ ti.zlen = ((zeroOf P t).getD []).length ∧ ti.kind = tkOf P d := by
  unfold tiOf at ht
  split at ht
  · rename_i i d hi hd
    cases ht
    exact ⟨i, d, hi, hd, rfl, rfl, rfl, rfl, rfl⟩
  · cases ht
theorem zeroOf_inv {t : TypeId} {z : List AV} (hz : zeroOf P t = some z) (φ : Phi) (ρ : Nat → UInt8) :
    ∃ i zv, P.info? t = some i ∧ i.zero = some zv ∧ VRs φ ρ z zv.cells.toList ∧ ∀ c ∈ z, okCell c = true := by
  unfold zeroOf at hz
  split at hz
  · rename_i i hi
    split at hz
    · rename_i zv hzv
      obtain ⟨h1, h2⟩ := (ofConst_ok (φ := φ) (ρ := ρ) zv).cells hz
      exact ⟨i, zv, hi, hzv, h1, h2⟩
    · cases hz
  · cases hz
theorem tk_inv (hE : EnvOK P E) {t : TypeId} {k : TK} (hk : E.tk t = k) (hne : k ≠ .other) :
    ∃ i d, P.info? t = some i ∧ P.underlying t = some d ∧ tkOf P d = k := by
  unfold Env.tk at hk
  split at hk
  · rename_i ti hti
    obtain ⟨i, d, hi, hd, _, _, _, _, hkind⟩ := tiOf_inv (hE.ty _ _ hti)
    exact ⟨i, d, hi, hd, by rw [← hkind, hk]⟩
  · exact absurd hk.symm hne
theorem cellsOf_eq {t : TypeId} {i : TypeInfo} (hi : P.info? t = some i) : P.cellsOf t = i.size := by simp [Program.cellsOf, hi]
theorem bytesOf_eq {t : TypeId} {i : TypeInfo} (hi : P.info? t = some i) : P.bytesOf t = i.bytes := by simp [Program.bytesOf, hi]

/-! ### New memory -/
/-- A new row of cells. -/
theorem new_row (hw : WR B ng φ ρ h w) {cs : List AV} {n : Nat} {vs : List Value} {e : TypeId} {b : Nat} (hn : h.new (.cells cs n true) = some (b, h'))
    (hv : VRs φ ρ cs vs) (hlen : cs.length = n) (hok : ∀ c ∈ cs, okCell c = true) (extra : List Value) (fr : Nat × Nat := (0, 0)) (hfr : ∀ i, i < vs.length + extra.length → ¬ (fr.1 ≤ i ∧ i < fr.2) := by intro i _; simp) :
    ∃ φ', φ' b = some ⟨w.heap.size, 0, vs.length + extra.length⟩ ∧ Step B φ w φ' (w.alloc (.cells (vs ++ extra).toArray e fr)) ∧ WR B ng φ' ρ h' (w.alloc (.cells (vs ++ extra).toArray e fr)) := by
  obtain ⟨rfl, -⟩ := H.new_eq hn
  have hle : PhiLe φ (φ.put h.next ⟨w.heap.size, 0, vs.length + extra.length⟩) := Phi.put_le (hw.dom _ (Nat.le_refl _))
  have hvl : vs.length = n := by rw [← hv.length, hlen]
  obtain ⟨h1, h2⟩ := hw.new (ob := .cells (vs ++ extra).toArray e fr) (sz := vs.length + extra.length) hn
    ⟨hlen, by simp; omega, hok, (vs ++ extra).toArray, ⟨e, fr, World.alloc_heap_new w _, by simp, fun _ i hi => hfr i (by simpa using hi)⟩, by
      have : List.take n (vs ++ extra) = vs := by simp [← hvl]
      simpa [this] using hv.mono hle⟩
  exact ⟨_, Phi.put_same, h2, h1⟩
theorem alloc_fits (hw : WR B ng φ ρ h w) {t : TypeId} {ti : TI} (ht : tiOf P t = some ti) {v : AV} (ha : allocA ti h = some (v, h')) :
    Fits P B ng φ ρ w h' v (Instr.alloc t true (.tuple #[])) := by
  obtain ⟨i, d, hi, hd, h1, h2, h3, h4, h5⟩ := tiOf_inv ht
  unfold allocA at ha
  split at ha
  · rename_i z hz
    rw [h3] at hz
    split at ha
    · rename_i b h1' hn
      cases ha
      obtain ⟨i', zv, hi', hzv, hvr, hok⟩ := zeroOf_inv hz φ ρ
      rw [hi] at hi'; cases hi'
      have hlen : z.length = ti.zlen := by rw [h4, hz]; rfl
      obtain ⟨φ', hb, hst, hwr⟩ := new_row (e := t) hw hn hvr hlen hok []
      refine ⟨.pointer (some ⟨w.heap.size, 0, none⟩), w.alloc (.cells zv.cells t), φ', ?_, ?_, ?_, ?_⟩
      · simp [Instr.alloc, run_zero hi hzv, newVar, newRow]
      · simpa using hst
      · simpa using hwr
      · have := VR.ptr (ρ := ρ) (off := 0) hb; simpa using this
    · cases ha
  · cases ha
theorem box_fits (hw : WR B ng φ ρ h w) {t : TypeId} {x : AV} {x' : Value} (hx : VR φ ρ x x') {v : AV} (ha : boxA x h = some (v, h')) :
    Fits P B ng φ ρ w h' v (Instr.box t x') := by
  unfold boxA at ha
  split at ha
  · rename_i cs hc
    split at ha
    · rename_i b h1' hn
      cases ha
      obtain ⟨hvr, hok⟩ := hx.cells hc
      obtain ⟨φ', hb, hst, hwr⟩ := new_row (e := t) hw hn hvr rfl hok []
      refine ⟨.pointer (some ⟨w.heap.size, 0, none⟩), w.alloc (.cells x'.cells t), φ', ?_, ?_, ?_, ?_⟩
      · simp [Instr.box, newVar, newRow]
      · simpa using hst
      · simpa using hwr
      · have := VR.ptr (ρ := ρ) (off := 0) hb; simpa using this
    · cases ha
  · cases ha

/-! ### Load, store -/
theorem load_fits (hw : WR B ng φ ρ h w) {t : TypeId} {ti : TI} (ht : tiOf P t = some ti) {a v : AV} {a' : Value} (ha : VR φ ρ a a') (hl : loadA h ti a = some v) :
    Fits P B ng φ ρ w h v (Instr.loadAt t a') := by
  obtain ⟨i, d, hi, hd, h1, h2, _, _, _⟩ := tiOf_inv ht
  unfold loadA at hl
  split at hl
  · rename_i b off
    cases ha with
    | ptr hp =>
      rename_i p
      split at hl
      · rename_i hagg
        split at hl
        · rename_i cs hcs
          cases hl
          obtain ⟨vs, hrun, hvr, hok, _⟩ := load_cells (P := P) hw hcs hp
          rw [h1] at hrun
          refine .pure (v' := .agg vs.toArray) hw ?_ (.agg hvr hok)
          simp [Instr.loadAt, Instr.sureAddr, loadVar, run_isAgg hd, ← h2, hagg, run_sz hi, hrun]
        · cases hl
      · rename_i hagg
        obtain ⟨v', hrun, hvr⟩ := load_one (P := P) hw hl hp
        refine .pure (v' := v') hw ?_ hvr
        simp only [Instr.loadAt, Instr.sureAddr, loadVar, Sem.run_bind, Sem.run_pure, Result.andThen_ok, run_isAgg hd, ← h2, hagg]
        simpa using hrun
  · cases hl
theorem store_fits (hw : WR B ng φ ρ h w) {t : TypeId} {ti : TI} (ht : tiOf P t = some ti) {a v : AV} {a' v' : Value} (ha : VR φ ρ a a') (hv : VR φ ρ v v') (hl : storeA h ti a v = some h') :
    ∃ w', (Instr.storeAt t a' v').run P w = .ok () w' ∧ Step B φ w φ w' ∧ WR B ng φ ρ h' w' := by
  obtain ⟨i, d, hi, hd, h1, h2, _, _, _⟩ := tiOf_inv ht
  unfold storeA at hl
  split at hl
  · rename_i b off
    cases ha with
    | ptr hp =>
      rename_i p
      split at hl
      · rename_i vs hvs
        split at hl
        · rename_i hlen
          have hlen := Nat.eq_of_beq_eq_true hlen
          obtain ⟨hvr, hok⟩ := hv.cells hvs
          obtain ⟨w', hrun, hwr, hst⟩ := store_cells (P := P) hw hl hp hvr hlen hok
          refine ⟨w', ?_, hst, hwr⟩
          have hsz : v'.cells.size = i.size := by have := hvr.length; simp at this; omega
          simp [Instr.storeAt, Instr.sureAddr, storeVar, run_sz hi, hsz, hrun]
        · cases hl
      · cases hl
  · cases hl

/-! ### Built values -/
def PartsR (φ : Phi) (ρ : Nat → UInt8) : List (Nat × AV) → List (Nat × Value) → Prop
  | [], [] => True
  | a :: l, b :: m => a.1 = b.1 ∧ VR φ ρ a.2 b.2 ∧ PartsR φ ρ l m
  | _, _ => False
theorem PartsR.of (r : Operand → AV) (r' : Operand → Value) (hr : ∀ x, VR φ ρ (r x) (r' x)) : ∀ l : List (Nat × Operand), PartsR φ ρ (l.map fun p => (p.1, r p.2)) (l.map fun p => (p.1, r' p.2))
  | [] => trivial
  | _ :: l => ⟨rfl, hr _, PartsR.of r r' hr l⟩
theorem foldl_set (l : List Value) : ∀ (k : Nat) (off : Nat) (cs : Array Value), off + k + l.length ≤ cs.size →
    ((l.zipIdx k).foldl (fun cs (p : Value × Nat) => cs.setIfInBounds (off + p.2) p.1) cs).toList = over cs.toList (off + k) l := by
  induction l with
  | nil => intro k off cs _; simp [over_nil]
  | cons v l ih =>
    intro k off cs hle
    simp only [List.length_cons] at hle
    simp only [List.zipIdx_cons, List.foldl_cons]
    rw [ih (k+1) off _ (by simp; omega), over_cons _ _ _ _ (by simp; omega)]
    simp [Nat.add_assoc]
theorem fill_fits {place : Nat → Option (Nat × Nat)} {n : Nat} : ∀ (parts : List (Nat × AV)) (parts' : List (Nat × Value)) (cells : List AV) (cells' : Array Value) (cs : List AV),
    PartsR φ ρ parts parts' → VRs φ ρ cells cells'.toList → cells.length = n → (∀ c ∈ cells, okCell c = true) → fillA place n cells parts = some cs →
    ∃ cs' : Array Value, Instr.fill place cells' parts' = some cs' ∧ VRs φ ρ cs cs'.toList ∧ cs.length = n ∧ (∀ c ∈ cs, okCell c = true)
  | [], [], cells, cells', cs, _, hv, hn, hok, hf => by
    simp [fillA] at hf; subst hf
    exact ⟨cells', rfl, hv, hn, hok⟩
  | [], _ :: _, _, _, _, hp, _, _, _, _ => hp.elim
  | _ :: _, [], _, _, _, hp, _, _, _, _ => hp.elim
  | (i, v) :: l, (i', v') :: m, cells, cells', cs, ⟨hi, hv', hp⟩, hv, hn, hok, hf => by
    simp only at hi hv'
    subst hi
    simp only [fillA] at hf
    split at hf
    · rename_i off size vs hpl hvs
      split at hf
      · rename_i hs hle
        have hs := Nat.eq_of_beq_eq_true hs
        have hle := Nat.le_of_ble_eq_true hle
        obtain ⟨hvr, hok'⟩ := hv'.cells hvs
        have hsz : v'.cells.size = size := by have := hvr.length; simp at this; omega
        have hcn : cells'.size = n := by have := hv.length; simp at this; omega
        have hfold := foldl_set v'.cells.toList 0 off cells' (by simp; omega)
        have ih := fill_fits l m (over cells off vs) (over cells'.toList off v'.cells.toList).toArray cs hp (by simpa using VRs.over off hv hvr)
          (by rw [over_length _ _ _ (by omega), hn]) (fun c hc => by rcases over_mem _ _ _ _ hc with h | h; exact hok c h; exact hok' c h) hf
        obtain ⟨cs', h1, h2⟩ := ih
        refine ⟨cs', ?_, h2⟩
        have hcond : ¬ (v'.cells.size ≠ size ∨ off + v'.cells.size > cells'.size) := by omega
        unfold Instr.fill
        simp only [hpl]
        rw [if_neg (by simpa using hcond)]
        rw [← h1]
        congr 1
        apply Array.ext'
        rw [← Array.foldl_toList, Array.toList_zipIdx]
        simpa using hfold
      · cases hf
    · cases hf
end Bly
