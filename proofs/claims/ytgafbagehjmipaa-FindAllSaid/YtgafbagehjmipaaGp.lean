/- Arguments as read-only blocks: slices of bytes, of attributes, of lists of attributes. -/
import Derived.Test.YtgafbagehjmipaaGn
import Derived.Deep.SlicePairs
import Derived.ProofKit
namespace Go.Proofs.Ytgafbagehjmipaa
open Go.ChangeShapes Go.WideShapes Go.ChangeAt Go.RowKit
open Bly

abbrev Objs := Nat → Option (AObj × Pl)
def Ext (φ : Phi) (obj : Objs) : Prop := ∀ b o p, obj b = some (o, p) → φ b = some p
def Has (h : H) (obj : Objs) : Prop := ∀ b o p, obj b = some (o, p) → h.get b = some o ∧ b < h.next
/-- Read-only blocks of numbers lo .. hi. -/
structure Pc (W : World) (lo hi : Nat) (obj : Objs) : Prop where
  dom : ∀ b o p, obj b = some (o, p) → lo ≤ b ∧ b < hi
  ok : ∀ φ ρ, Ext φ obj → ∀ b o p, obj b = some (o, p) → OR φ ρ W p o ∧ o.rw = false ∧ p.blk < W.heap.size
theorem Pc.none {W : World} {lo hi : Nat} : Pc W lo hi (fun _ => none) := ⟨fun _ _ _ h => (by cases h), fun _ _ _ _ _ _ h => (by cases h)⟩
/-- Some block that may be looked at. -/
def Stand (h : H) (b : Nat) : Prop := ∃ ds, h.get b = some (.cells ds ds.length false) ∧ b < h.next
theorem VRs.of_get {φ : Phi} {ρ : Nat → UInt8} : ∀ {l : List AV} {m : List Value}, l.length = m.length → (∀ (i : Nat) (a : AV) (v : Value), l[i]? = some a → m[i]? = some v → VR φ ρ a v) → VRs φ ρ l m
  | [], [], _, _ => .nil
  | [], _ :: _, h, _ => by simp at h
  | _ :: _, [], h, _ => by simp at h
  | a :: l, v :: m, h, hg => .cons (hg 0 a v rfl rfl) (VRs.of_get (by simpa using h) fun i a' v' h1 h2 => hg (i+1) a' v' (by simpa using h1) (by simpa using h2))
/-- A slice's cells, as a row of one block. -/
theorem row_of {W : World} {a : Addr} {n : Nat} {V : Nat → Value} (hn : 0 < n) (hV : ∀ i, i < n → W.cell? (a.add i) = some (V i)) :
    ∃ c e fr, W.heap[a.block]? = some (.cells c e fr) ∧ a.spot = none ∧ a.off + n ≤ c.size ∧ a.block < W.heap.size ∧ ∀ k, k ≤ n → (c.toList.drop a.off).take k = (List.range k).map V := by
  have h0 := hV 0 hn
  have e0 : a.add 0 = a := by unfold Addr.add; simp
  rw [e0] at h0
  have hsp : a.spot = none := World.cell?_spot h0
  obtain ⟨c, e, fr, hh⟩ : ∃ c e fr, W.heap[a.block]? = some (.cells c e fr) := by
    unfold World.cell? at h0
    split at h0
    · rename_i c e fr hh; exact ⟨c, e, fr, hh⟩
    · cases h0
  have ha : a = ⟨a.block, a.off, none⟩ := by cases a; simp at hsp; rw [hsp]
  have hc : ∀ i, i < n → c[a.off + i]? = some (V i) := fun i hi => by
    have := hV i hi
    rw [ha, Bly.addr_add] at this
    simpa [World.cell?, hh] using this
  have hsz : a.off + n ≤ c.size := by
    have := (Array.getElem?_eq_some_iff.1 (hc (n-1) (by omega))).1
    omega
  refine ⟨c, e, fr, hh, hsp, hsz, (Array.getElem?_eq_some_iff.1 hh).1, fun k hk => ?_⟩
  apply List.ext_getElem?
  intro i
  rw [List.getElem?_take, List.getElem?_map]
  split
  · rename_i hi
    rw [List.getElem?_drop, Array.getElem?_toList, hc i (by omega)]
    simp [hi]
  · rename_i hi
    rw [List.getElem?_eq_none (by simpa using hi)]; rfl
/-- A block of its own for such a row. -/
theorem pc_row {W : World} {a : Addr} {c : Array Value} {e : TypeId} {fr : Nat × Nat} {k : Nat} {cells : List AV} {V : Nat → Value} {obj : Objs} (hh : W.heap[a.block]? = some (.cells c e fr)) (hk : a.off + k ≤ c.size) (hlen : cells.length = k) (ho : ∀ x ∈ cells, okCell x = true)
    (hrow : (c.toList.drop a.off).take k = (List.range k).map V) (hv : ∀ φ ρ, Ext φ obj → VRs φ ρ cells ((List.range k).map V)) :
    ∀ φ ρ, Ext φ obj → OR φ ρ W ⟨a.block, a.off, c.size⟩ (.cells cells k false) := by
  intro φ ρ hφ
  refine ⟨hlen, hk, ho, c, ⟨e, fr, hh, rfl, fun h => (by cases h)⟩, ?_⟩
  show VRs φ ρ cells ((c.toList.drop a.off).take k)
  rw [hrow]; exact hv φ ρ hφ

theorem und46 : Try.prog.underlying 46 = some (.slice 5) := by kernel_rfl
theorem und5 : Try.prog.underlying 5 = some (.int .u8) := by kernel_rfl
theorem cells5 : Try.prog.cellsOf 5 = 1 := by kernel_rfl
theorem wf_u8 {n : Int} (h : (Lit.int .u8 n).wf = true) : 0 ≤ n ∧ n < 256 := by
  simp [Lit.wf, IntKind.min, IntKind.max, IntKind.bits, IntKind.signed] at h
  omega
def intOf : Value → Int
  | .int _ n => n
  | _ => 0
abbrev allSp : Nat → Bool := fun _ => true
/-- A slice of bytes that is an element of what came in. -/
theorem open_bytes {H : Type} {enc : TypeId × Value → H} {W : World} {hd : Bool} {V : Value} {x : DataW H × List MemPlace} {fuel : Nat} (id id0 : Nat) (h : DataW.trod enc Try.prog W 0 allSp hd fuel 46 [V] = some x) :
    ∃ (obj : Objs) (av : AV) (bs : List UInt8), Pc W id (id+1) obj ∧ okCell av = true ∧ (∀ φ ρ, Ext φ obj → (V ≠ .slice none 0 0 → ∃ q, φ id0 = some q) → VR φ ρ av V) ∧ ∀ h : Bly.H, Has h obj → (V ≠ .slice none 0 0 → Stand h id0) → Ar h av false 1 bs.length (bs.map byteV) := by
  rcases Go.Deep.open_slice1 und46 cells5 h with ⟨hcs, _⟩ | ⟨a, len, cap, m, n, V', D, Pl', hcs, _, hl, _, hm, _, hc⟩
  · have : V = .slice none 0 0 := by simpa using hcs
    subst this
    exact ⟨fun _ => none, .nils, [], Pc.none, rfl, fun _ _ _ _ => .nils, fun _ _ _ => Ar.nil⟩
  · have : V = .slice (some a) len cap := by simpa using hcs
    subst this
    have hm : m = cap := by simpa using hm
    subst hm
    by_cases hc0 : m = 0
    · subst hc0
      have hl0 : len = 0 := by omega
      subst hl0
      refine ⟨fun _ => none, .slice id0 0 0 1, [], Pc.none, rfl, fun φ ρ _ hf => let ⟨_, hq⟩ := hf (by simp); .slice hq (.inr ⟨rfl, rfl⟩), fun h _ hf => let ⟨ds, g1, g2⟩ := hf (by simp); .inr ⟨id0, ⟨0, ds, ds.length, rfl, g1, by simp, rfl, by simp⟩, g2⟩⟩
    · obtain ⟨c, e, fr, hh, hsp, hsz, hblt, hrow⟩ := row_of (V := V') (by omega) (fun i hi => (hc i hi).1)
      have hz : ∀ i, i < m → V' i = .int .u8 (intOf (V' i)) ∧ 0 ≤ intOf (V' i) ∧ intOf (V' i) < 256 := fun i hi => by
        obtain ⟨z, e1, _, e3⟩ := DataW.trod_int und5 (hc i hi).2
        have : V' i = .int .u8 z := by simpa using e1
        rw [this]
        exact ⟨rfl, wf_u8 e3⟩
      obtain ⟨bs, ebs⟩ : ∃ bs : List UInt8, bs = (List.range len).map fun i => UInt8.ofNat (intOf (V' i)).toNat := ⟨_, rfl⟩
      have hbl : bs.length = len := by rw [ebs]; simp
      have hbv : ∀ i, i < len → byteV (UInt8.ofNat (intOf (V' i)).toNat) = .int .u8 (intOf (V' i)) := fun i hi => by
        obtain ⟨_, h1, h2⟩ := hz i (by omega)
        unfold byteV
        congr 1
        have : (UInt8.ofNat (intOf (V' i)).toNat).toNat = (intOf (V' i)).toNat := by rw [UInt8.toNat_ofNat']; omega
        rw [this]
        show ((intOf (V' i)).toNat : Int) = _
        omega
      have hvrs : ∀ φ ρ, VRs φ ρ (bs.map byteV) ((List.range len).map V') := fun φ ρ => VRs.of_get (by simp [hbl]) fun i a v h1 h2 => by
        have hi : i < len := by have := (List.getElem?_eq_some_iff.1 h2).1; simpa using this
        rw [ebs] at h1
        simp [hi] at h1 h2
        subst h1; subst h2
        rw [hbv i hi, (hz i (by omega)).1]
        exact .int _ _
      obtain ⟨obj, eo⟩ : ∃ obj : Objs, obj = fun b => if b = id then some (.cells (bs.map byteV) len false, ⟨a.block, a.off, c.size⟩) else none := ⟨_, rfl⟩
      have hid : obj id = some (.cells (bs.map byteV) len false, ⟨a.block, a.off, c.size⟩) := by rw [eo]; simp
      have hinv : ∀ b o p, obj b = some (o, p) → b = id ∧ o = .cells (bs.map byteV) len false ∧ p = ⟨a.block, a.off, c.size⟩ := fun b o p hb => by
        rw [eo] at hb
        simp only at hb
        split at hb
        · cases hb; rename_i e; exact ⟨e, rfl, rfl⟩
        · cases hb
      refine ⟨obj, .slice id 0 len 1, bs, ⟨fun b o p hb => by have := (hinv b o p hb).1; omega, fun φ ρ hφ b o p hb => ?_⟩, rfl, fun φ ρ hφ _ => ?_, fun h hh _ => ?_⟩
      · obtain ⟨_, rfl, rfl⟩ := hinv b o p hb
        exact ⟨pc_row (V := V') hh (by omega) (by simp [hbl]) (fun x hx => by obtain ⟨b, _, rfl⟩ := List.mem_map.1 hx; rfl) (hrow len hl) (fun φ ρ _ => hvrs φ ρ) φ ρ hφ, rfl, hblt⟩
      · refine .slice (hφ id _ _ hid) (.inl ⟨?_, hl, by simp; omega⟩)
        cases a; simp at hsp; simp [hsp]
      · obtain ⟨g1, g2⟩ := hh id _ _ hid
        exact .inr ⟨id, ⟨0, bs.map byteV, len, by rw [hbl], g1, by simp [hbl], by simp [hbl], by rw [List.drop_zero, hbl]; exact List.take_of_length_le (by simp [hbl])⟩, g2⟩
theorem und24 : Try.prog.underlying 24 = some (.slice 48) := by kernel_rfl
theorem cells48 : Try.prog.cellsOf 48 = 2 := by kernel_rfl
theorem cells3' : Try.prog.cellsOf 3 = 1 := by kernel_rfl
theorem cells46 : Try.prog.cellsOf 46 = 1 := by kernel_rfl
theorem cells24 : Try.prog.cellsOf 24 = 1 := by kernel_rfl
theorem und3 : Try.prog.underlying 3 = some (.int .i64) := by kernel_rfl
theorem und23 : Try.prog.underlying 23 = some (.slice 24) := by kernel_rfl
theorem und48 : ∃ f0 f1 : Field, Try.prog.underlying 48 = some (.struct #[f0, f1]) ∧ f0.offset = 0 ∧ f1.offset = 1 ∧ f0.type = 3 ∧ f1.type = 46 := ⟨{ name := "Type", type := 3, offset := 0, embedded := false, tag := "", pkgPath := "", byteOffset := 0 }, { name := "Value", type := 46, offset := 1, embedded := false, tag := "", pkgPath := "", byteOffset := 8 }, by kernel_rfl, rfl, rfl, rfl, rfl⟩
theorem attCells_length : ∀ (L : List Att) (vs : List AV), vs.length = L.length → (attCells L vs).length = L.length * 2
  | [], [], _ => rfl
  | [], _ :: _, h => by simp at h
  | _ :: _, [], h => by simp at h
  | a :: L, v :: vs, h => by
    simp only [attCells, List.length_cons, attCells_length L vs (by simpa using h)]; omega
theorem slice_one {H : Type} {enc : TypeId × Value → H} {W : World} {hd : Bool} {V : Value} {x : DataW H × List MemPlace} {fuel t e : Nat} (ht : Try.prog.underlying t = some (.slice e)) (h : DataW.trod enc Try.prog W 0 allSp hd fuel t [V] = some x) : oneC V = true := by
  rcases Go.Deep.open_slice ht h with ⟨hcs, _⟩ | ⟨a, len, cap, m, n, D, Pl', hcs, _⟩
  · have : V = .slice none 0 0 := by simpa using hcs
    rw [this]; rfl
  · have : V = .slice (some a) len cap := by simpa using hcs
    rw [this]; rfl
/-- A list of attributes that came in; 'lim' of its values are opened. -/
theorem open_atts {H : Type} {enc : TypeId × Value → H} {W : World} {hd : Bool} {V : Value} {x : DataW H × List MemPlace} {fuel : Nat} (id id0 lim : Nat) (h : DataW.trod enc Try.prog W 0 allSp hd fuel 24 [V] = some x) :
    ∃ (obj : Objs) (av : AV) (L : List Att) (vs : List AV), Pc W id (id+1+lim) obj ∧ okCell av = true ∧ (∀ φ ρ, Ext φ obj → (V ≠ .slice none 0 0 → ∃ q, φ id0 = some q) → VR φ ρ av V) ∧ ∀ h : Bly.H, Has h obj → (V ≠ .slice none 0 0 → Stand h id0) → AtsM lim h av false false L vs := by
  obtain ⟨f0, f1, us, o0, o1, t0, t1⟩ := und48
  rcases Go.Deep.open_slice_pairs und24 us cells48 o0 o1 (by rw [t0]; exact cells3') (by rw [t1]; exact cells46) h with ⟨hcs, _⟩ | ⟨a, len, cap, m, n, V0, V1, D0, D1, P0, P1, hcs, _, hl, _, hm, _, hc⟩
  · have : V = .slice none 0 0 := by simpa using hcs
    subst this
    exact ⟨fun _ => none, .nils, [], [], Pc.none, rfl, fun _ _ _ _ => .nils, fun _ _ _ => ⟨rfl, Ar.nil, fun i a v _ h => by simp at h⟩⟩
  · have : V = .slice (some a) len cap := by simpa using hcs
    subst this
    have hm : m = cap := by simpa using hm
    subst hm
    rw [t0, t1] at hc
    by_cases hc0 : m = 0
    · subst hc0
      have hl0 : len = 0 := by omega
      subst hl0
      refine ⟨fun _ => none, .slice id0 0 0 2, [], [], Pc.none, rfl, fun φ ρ _ hf => let ⟨_, hq⟩ := hf (by simp); .slice hq (.inr ⟨rfl, rfl⟩), fun h _ hf => ?_⟩
      obtain ⟨ds, g1, g2⟩ := hf (by simp)
      exact ⟨rfl, .inr ⟨id0, ⟨0, ds, ds.length, rfl, g1, by simp, rfl, by simp [attCells]⟩, g2⟩, fun i a v _ h => by simp at h⟩
    · obtain ⟨Vf, eVf⟩ : ∃ Vf : Nat → Value, Vf = fun k => if k % 2 = 0 then V0 (k / 2) else V1 (k / 2) := ⟨_, rfl⟩
      have hVf : ∀ k, k < m * 2 → W.cell? (a.add k) = some (Vf k) := fun k hk => by
        obtain ⟨g1, g2, _⟩ := hc (k / 2) (by omega)
        rw [eVf]
        simp only
        by_cases h0 : k % 2 = 0
        · rw [if_pos h0, ← g1]; congr 2; omega
        · rw [if_neg h0, ← g2]; congr 2; omega
      obtain ⟨c, e, fr, hh, hsp, hsz, hblt, hrow⟩ := row_of (V := Vf) (n := m * 2) (by omega) hVf
      obtain ⟨G, hG⟩ := Go.Deep.choose_lt (α := Objs × AV × List UInt8) (n := m) (p := fun i q => Pc W (id+1+i) (id+1+i+1) q.1 ∧ okCell q.2.1 = true ∧ (∀ φ ρ, Ext φ q.1 → (V1 i ≠ .slice none 0 0 → ∃ r, φ id = some r) → VR φ ρ q.2.1 (V1 i)) ∧ ∀ h : Bly.H, Has h q.1 → (V1 i ≠ .slice none 0 0 → Stand h id) → Ar h q.2.1 false 1 q.2.2.length (q.2.2.map byteV)) (fun i hi => by
        obtain ⟨_, _, _, g4⟩ := hc i hi
        obtain ⟨obj, av, bs, p1, p2, p3, p4⟩ := open_bytes (id+1+i) id g4
        exact ⟨(obj, av, bs), p1, p2, p3, p4⟩)
      have hz : ∀ i, i < m → V0 i = .int .i64 (intOf (V0 i)) := fun i hi => by
        obtain ⟨z, e1, _, _⟩ := DataW.trod_int und3 (hc i hi).2.2.1
        have : V0 i = .int .i64 z := by simpa using e1
        rw [this]; rfl
      obtain ⟨L, eL⟩ : ∃ L : List Att, L = (List.range len).map fun i => (intOf (V0 i), if i < lim then (G i).2.2 else []) := ⟨_, rfl⟩
      obtain ⟨vs, ev⟩ : ∃ vs : List AV, vs = (List.range len).map fun i => if i < lim then (G i).2.1 else .any := ⟨_, rfl⟩
      have hLl : L.length = len := by rw [eL]; simp
      have hvl : vs.length = len := by rw [ev]; simp
      have hlv : vs.length = L.length := by omega
      have hcl : (attCells L vs).length = len * 2 := by rw [attCells_length L vs hlv, hLl]
      have hLi : ∀ i, i < len → L[i]? = some (intOf (V0 i), if i < lim then (G i).2.2 else []) := fun i hi => by rw [eL]; simp [hi]
      have hvi : ∀ i, i < len → vs[i]? = some (if i < lim then (G i).2.1 else .any) := fun i hi => by rw [ev]; simp [hi]
      obtain ⟨obj, eo⟩ : ∃ obj : Objs, obj = fun b => if b = id then some (.cells (attCells L vs) (len*2) false, ⟨a.block, a.off, c.size⟩) else if id < b ∧ b < id + 1 + min len lim then (G (b - id - 1)).1 b else none := ⟨_, rfl⟩
      have hid : obj id = some (.cells (attCells L vs) (len*2) false, ⟨a.block, a.off, c.size⟩) := by rw [eo]; simp
      have hsub : ∀ i, i < len → i < lim → ∀ b o p, (G i).1 b = some (o, p) → obj b = some (o, p) := fun i hi hil b o p hb => by
        have hd := (hG i (by omega)).1.dom b o p hb
        have : b = id + 1 + i := by omega
        subst this
        rw [eo]
        simp only
        rw [if_neg (by omega), if_pos (by omega), show id + 1 + i - id - 1 = i by omega]; exact hb
      have hinv : ∀ b o p, obj b = some (o, p) → (b = id ∧ o = .cells (attCells L vs) (len*2) false ∧ p = ⟨a.block, a.off, c.size⟩) ∨ ∃ i, i < len ∧ i < lim ∧ b = id + 1 + i ∧ (G i).1 b = some (o, p) := fun b o p hb => by
        rw [eo] at hb
        simp only at hb
        split at hb
        · cases hb; rename_i e; exact .inl ⟨e, rfl, rfl⟩
        · split at hb
          · exact .inr ⟨b - id - 1, by omega, by omega, by omega, hb⟩
          · cases hb
      have hext : ∀ φ, Ext φ obj → ∀ i, i < len → i < lim → Ext φ (G i).1 := fun φ hφ i hi hil b o p hb => hφ b o p (hsub i hi hil b o p hb)
      have hcell : ∀ k x, (attCells L vs)[k]? = some x → k < len * 2 ∧ ((k % 2 = 0 ∧ x = .int .i64 (intOf (V0 (k/2)))) ∨ (k % 2 = 1 ∧ x = if k / 2 < lim then (G (k/2)).2.1 else .any)) := fun k x hx => by
        have hk : k < len * 2 := by rw [← hcl]; exact (List.getElem?_eq_some_iff.1 hx).1
        have hk2 : k / 2 < len := by omega
        refine ⟨hk, ?_⟩
        rcases Nat.mod_two_eq_zero_or_one k with h0 | h0
        · have := attCells_typ L vs (k/2) _ hlv (hLi _ hk2)
          rw [nth_eq, show k / 2 * 2 + 0 = k by omega, hx] at this
          exact .inl ⟨h0, by cases this; rfl⟩
        · have := attCells_val L vs (k/2) _ hlv (hvi _ hk2)
          rw [nth_eq, show k / 2 * 2 + 1 = k by omega, hx] at this
          exact .inr ⟨h0, by cases this; rfl⟩
      have hvrs : ∀ φ ρ, Ext φ obj → VRs φ ρ (attCells L vs) ((List.range (len*2)).map Vf) := fun φ ρ hφ => VRs.of_get (by simp [hcl]) fun k x v h1 h2 => by
        obtain ⟨hk, hx⟩ := hcell k x h1
        simp [hk] at h2
        subst h2
        rw [eVf]
        simp only
        rcases hx with ⟨h0, rfl⟩ | ⟨h0, rfl⟩
        · rw [if_pos h0, hz (k/2) (by omega)]; exact .int _ _
        · rw [if_neg (show ¬ k % 2 = 0 by omega)]
          split
          · exact (hG (k/2) (by omega)).2.2.1 φ ρ (hext φ hφ _ (by omega) (by assumption)) (fun _ => ⟨_, hφ id _ _ hid⟩)
          · exact .any (slice_one und46 (hc (k/2) (by omega)).2.2.2)
      refine ⟨obj, .slice id 0 len 2, L, vs, ⟨fun b o p hb => ?_, fun φ ρ hφ b o p hb => ?_⟩, rfl, fun φ ρ hφ _ => ?_, fun h hh _ => ?_⟩
      · rcases hinv b o p hb with ⟨h1, _⟩ | ⟨i, h1, h2, h3, _⟩ <;> omega
      · rcases hinv b o p hb with ⟨_, rfl, rfl⟩ | ⟨i, h1, h2, _, h4⟩
        · refine ⟨pc_row (V := Vf) hh (by omega) hcl (fun x hx => ?_) (hrow (len*2) (by omega)) hvrs φ ρ hφ, rfl, hblt⟩
          obtain ⟨k, hk⟩ := List.getElem?_of_mem hx
          obtain ⟨hkl, hx⟩ := hcell k x hk
          rcases hx with ⟨_, rfl⟩ | ⟨_, rfl⟩
          · rfl
          · split
            · exact (hG (k/2) (by omega)).2.1
            · rfl
        · exact (hG i (by omega)).1.ok φ ρ (hext φ hφ i h1 h2) b o p h4
      · refine .slice (hφ id _ _ hid) (.inl ⟨?_, hl, by simp; omega⟩)
        cases a; simp at hsp; simp [hsp]
      · obtain ⟨g1, g2⟩ := hh id _ _ hid
        have hstand : Stand h id := ⟨attCells L vs, by rw [hcl]; exact g1, g2⟩
        refine ⟨hlv, .inr ⟨id, ⟨0, attCells L vs, len*2, by rw [hLl], g1, by rw [hLl, hcl]; omega, hcl, by rw [List.drop_zero, hLl]; exact List.take_of_length_le (by omega)⟩, g2⟩, fun i at' v hil h1 h2 => ?_⟩
        have hi : i < len := by rw [← hLl]; exact (List.getElem?_eq_some_iff.1 h1).1
        rw [hLi i hi, if_pos hil] at h1
        rw [hvi i hi, if_pos hil] at h2
        cases h1; cases h2
        exact (hG i (by omega)).2.2.2 h (fun b o p hb => hh b o p (hsub i hi hil b o p hb)) (fun _ => hstand)
end Go.Proofs.Ytgafbagehjmipaa
