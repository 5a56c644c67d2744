/- Operations, fourth part: conversions, maps, builtins. -/
import Derived.Test.YtgafbagehjmipaaBlyQ
import Derived.Laws.Append
import Derived.Laws.IdiomStrings
namespace Bly
open Go Go.RowKit

variable {P : Program} {E : Env} {w : World} {φ : Phi} {ρ : Nat → UInt8} {B ng : Nat} {h h' : H}

/-! ### Conversions -/
theorem bytes_inv (hE : EnvOK P E) {k : TK} {d : TypeDesc} (hk : tkOf P d = k) (hb : E.bytes k = true) :
    ∃ e, d = .slice e ∧ P.underlying e = some (.int .u8) ∧ P.cellsOf e = 1 ∧ P.bytesOf e = 1 ∧ k = .slice e 1 1 (zeroOf P e) := by
  unfold Env.bytes at hb
  split at hb
  · rename_i e z
    obtain ⟨rfl, h1, h2, rfl, _⟩ := tkOf_slice hk
    split at hb
    · rename_i hte
      obtain ⟨_, de, _, hde, hke⟩ := tk_inv hE hte (by simp)
      have := tkOf_int hke; subst this
      exact ⟨e, rfl, hde, h1.symm, h2.symm, rfl⟩
    · cases hb
  · cases hb
theorem byte_value {a : AV} {v : Value} (hv : VR φ ρ a v) (hb : isByte a = true) : ∃ c : UInt8, v = bv c := by
  unfold isByte at hb
  split at hb
  · rename_i n
    have := blt_true.1 hb
    cases hv
    exact ⟨UInt8.ofNat n, by simp [bv, Nat.mod_eq_of_lt this]⟩
  · cases hv; exact ⟨_, rfl⟩
  · cases hb
theorem bytes_values : ∀ {l : List AV} {m : List Value}, VRs φ ρ l m → l.all isByte = true → ∃ bs : List UInt8, m = bs.map bv
  | _, _, .nil, _ => ⟨[], rfl⟩
  | _, _, .cons h t, hb => by
    simp only [List.all_cons, Bool.and_eq_true] at hb
    obtain ⟨c, rfl⟩ := byte_value h hb.1
    obtain ⟨bs, rfl⟩ := bytes_values t hb.2
    exact ⟨c :: bs, rfl⟩
theorem le_grownCap (w : World) (n c : Nat) (e : TypeId) : n ≤ grownCap w n c e := by
  unfold grownCap; simp only [Question.cut]; omega
theorem conv_fits (hE : EnvOK P E) (hw : WR B ng φ ρ h w) {s d : TypeId} {x : AV} {x' : Value} (hx : VR φ ρ x x') {v : AV}
    (hb : convA (E.tk s) (E.tk d) (E.bytes (E.tk s)) (E.bytes (E.tk d)) x h = some (v, h')) : Fits P B ng φ ρ w h' v (convert s d x') := by
  generalize hks : E.tk s = ks at hb
  generalize hkd : E.tk d = kd at hb
  unfold convA at hb
  split at hb
  · rename_i k1 k2 k3 n
    obtain ⟨_, ds, _, hds, hs⟩ := tk_inv hE hks (by simp)
    obtain ⟨_, dd, _, hdd, hd⟩ := tk_inv hE hkd (by simp)
    have := tkOf_int hd; subst this
    cases hx; cases hb
    refine .pure (v' := .int k2 (k2.wrap n)) hw ?_ (by rw [wrapA_eq]; exact .int _ _)
    simp [convert, run_underlying hds, run_underlying hdd, Conv.intToInt]
  · rename_i i
    obtain ⟨_, ds, _, hds, hs⟩ := tk_inv hE hks (by simp)
    obtain ⟨_, dd, _, hdd, hd⟩ := tk_inv hE hkd (by simp)
    have := tkOf_int hd; subst this
    cases hx; cases hb
    refine .pure (v' := .int .u8 (ρ i).toNat) hw ?_ (.sym i)
    have : IntKind.u8.wrap ((ρ i).toNat : Int) = (ρ i).toNat := wrap_ofNat .u8 _ (by simpa [topOf] using (ρ i).toNat_lt)
    simp [convert, run_underlying hds, run_underlying hdd, Conv.intToInt, this]
  · rename_i l
    obtain ⟨_, ds, _, hds, hs⟩ := tk_inv hE hks (by simp)
    obtain ⟨_, dd, _, hdd, hd⟩ := tk_inv hE hkd (by simp)
    have := tkOf_string hd; subst this
    cases hb
    cases hx with
    | str hl hlb =>
      rename_i s'
      refine .pure (v' := .string s') hw ?_ (.str hl hlb)
      simp [convert, run_underlying hds, run_underlying hdd]
  · rename_i e esz eb z l
    split at hb
    · rename_i hby
      split at hb
      · rename_i b h1 hn
        cases hb
        obtain ⟨_, ds, _, hds, hs⟩ := tk_inv hE hks (by simp)
        have := tkOf_string hs; subst this
        obtain ⟨_, dd, _, hdd, hd⟩ := tk_inv hE hkd (by simp)
        obtain ⟨e', rfl, he, hc1, hb1, hk1⟩ := bytes_inv hE hd hby
        cases hx with
        | str hl hlb =>
          rename_i s'
          have hrun := run_bytes_of_string (P := P) w s d e' s' hds hdd he
          have hsz : (s'.data.toList.map bv).length = s'.size := by simp
          have hrow : bytesRow s' (grownCap w s'.size 0 e') = ((s'.data.toList.map bv) ++ List.replicate (grownCap w s'.size 0 e' - s'.size) (Value.int .u8 0)).toArray := by
            unfold bytesRow
            apply Array.ext'
            simp
            intro a _; rfl
          have hg := le_grownCap w s'.size 0 e'
          have hbs : (bytesRow s' (grownCap w s'.size 0 e')).size = grownCap w s'.size 0 e' := by
            rw [hrow]; simp; omega
          rw [hbs, hrow] at hrun
          obtain ⟨φ', hb', hst, hwr⟩ := new_row (w := w.drew) (e := e') (hw.same rfl) hn (hl.mono (.refl φ)) rfl (fun c hc => isByte_ok (hlb c hc))
            (List.replicate (grownCap w s'.size 0 e' - s'.size) (Value.int .u8 0)) (grownCap w s'.size 0 e', grownCap w s'.size 0 e' + 1) (fun i hi => by simp at hi ⊢; omega)
          have hll : l.length = s'.size := by have := hl.length; simpa using this
          refine ⟨_, _, φ', hrun, (Step.drew).trans hst, hwr, ?_⟩
          rw [hll]
          refine .slice hb' (.inl ⟨rfl, hg, ?_⟩)
          simp; omega
      · cases hb
    · cases hb
  · split at hb
    · rename_i hby
      cases hb
      obtain ⟨_, ds, _, hds, hs⟩ := tk_inv hE hks (by simp)
      obtain ⟨e', rfl, he, hc1, hb1, hk1⟩ := bytes_inv hE hs hby
      obtain ⟨_, dd, _, hdd, hd⟩ := tk_inv hE hkd (by simp)
      have := tkOf_string hd; subst this
      cases hx
      refine .pure (v' := .string .empty) hw ?_ (.str (by simpa using VRs.nil) (by simp))
      rw [run_convert_bytes_string w s d e' none 0 0 hds he hdd]
      rfl
    · cases hb
  · rename_i b off n
    split at hb
    · rename_i hby
      split at hb
      · rename_i l hl
        split at hb
        · rename_i hall
          cases hb
          obtain ⟨_, ds, _, hds, hs⟩ := tk_inv hE hks (by simp)
          obtain ⟨e', rfl, he, hc1, hb1, hk1⟩ := bytes_inv hE hs hby
          obtain ⟨_, dd, _, hdd, hd⟩ := tk_inv hE hkd (by simp)
          have := tkOf_string hd; subst this
          cases hx with
          | slice hp hsl =>
            rename_i p a cap
            obtain ⟨vs, hrun, hvr, hok, hlen⟩ := load_cells (P := P) hw hl hp
            obtain ⟨bs, rfl⟩ := bytes_values hvr hall
            have hrun' : (loadCells a n).run P w = .ok ((bs.map fun b => (b.toNat : Int)).map (Value.int .u8)).toArray w := by
              have hbs : (bs.map fun b => (b.toNat : Int)).map (Value.int .u8) = bs.map bv := by simp [bv]
              rw [hbs]
              rcases hsl with ⟨rfl, _⟩ | ⟨rfl, _⟩
              · exact hrun
              · have : bs = [] := by simpa using hlen
                subst this; rfl
            refine .pure (v' := .string ⟨bs.toArray⟩) hw ?_ (.str (by simpa using hvr) (List.all_eq_true.1 hall))
            rw [run_convert_bytes_string w s d e' (some a) n cap hds he hdd, run_bytesToString w a n cap _ hrun', foldl_push_byteCells]
            have he0 : ByteArray.empty.data = #[] := rfl
            rw [he0]; simp
        · cases hb
      · cases hb
    · cases hb
  · cases hb

/-! ### Maps -/
theorem EntsR.get : ∀ {l : List Ent} {m : List MapEntry}, EntsR φ ρ l m → ∀ {i : Nat} {e : Ent}, l[i]? = some e → ∃ x, m[i]? = some x ∧ EntR φ ρ e x
  | [], [], _, i, e, h => by simp at h
  | [], _ :: _, h, _, _, _ => h.elim
  | _ :: _, [], h, _, _, _ => h.elim
  | _ :: _, _ :: _, ⟨h, t⟩, 0, e, he => by simp at he; subst he; exact ⟨_, rfl, h⟩
  | _ :: _, _ :: _, ⟨h, t⟩, i+1, e, he => by simp at he; simpa using EntsR.get t he
theorem EntsR.length : ∀ {l : List Ent} {m : List MapEntry}, EntsR φ ρ l m → l.length = m.length
  | [], [], _ => rfl
  | [], _ :: _, h => h.elim
  | _ :: _, [], h => h.elim
  | _ :: _, _ :: _, ⟨_, t⟩ => by simp [EntsR.length t]
theorem EntsR.append : ∀ {l : List Ent} {m : List MapEntry} {l' m'}, EntsR φ ρ l m → EntsR φ ρ l' m' → EntsR φ ρ (l ++ l') (m ++ m')
  | [], [], _, _, _, h => h
  | [], _ :: _, _, _, h, _ => h.elim
  | _ :: _, [], _, _, h, _ => h.elim
  | _ :: _, _ :: _, _, _, ⟨h, t⟩, h' => ⟨h, EntsR.append t h'⟩
theorem EntsR.take : ∀ (n : Nat) {l : List Ent} {m : List MapEntry}, EntsR φ ρ l m → EntsR φ ρ (l.take n) (m.take n)
  | 0, _, _, _ => by simp [EntsR]
  | _+1, [], [], _ => by simp [EntsR]
  | _+1, [], _ :: _, h => h.elim
  | _+1, _ :: _, [], h => h.elim
  | n+1, _ :: _, _ :: _, ⟨h, t⟩ => ⟨h, EntsR.take n t⟩
theorem EntsR.drop : ∀ (n : Nat) {l : List Ent} {m : List MapEntry}, EntsR φ ρ l m → EntsR φ ρ (l.drop n) (m.drop n)
  | 0, _, _, h => by simpa using h
  | _+1, [], [], _ => by simp [EntsR]
  | _+1, [], _ :: _, h => h.elim
  | _+1, _ :: _, [], h => h.elim
  | n+1, _ :: _, _ :: _, ⟨h, t⟩ => by simpa using EntsR.drop n t
theorem EntsR.setNth : ∀ (i : Nat) {l : List Ent} {m : List MapEntry} {e x}, EntsR φ ρ l m → EntR φ ρ e x → EntsR φ ρ (setNth l i e) (setNth m i x)
  | _, [], [], _, _, _, _ => by simp [Bly.setNth, EntsR]
  | _, [], _ :: _, _, _, h, _ => h.elim
  | _, _ :: _, [], _, _, h, _ => h.elim
  | 0, _ :: _, _ :: _, _, _, ⟨h, t⟩, k => by simpa [Bly.setNth] using ⟨k, t⟩
  | i+1, _ :: _, _ :: _, _, _, ⟨h, t⟩, k => by simpa [Bly.setNth] using ⟨h, EntsR.setNth i t k⟩
theorem keyEq_inv {kk : Nat} {a b : AV} {x : Bool} (h : keyEq kk a b = some x) : kk = 1 ∧ ∃ k m n, a = .int k m ∧ b = .int k n ∧ x = (m == n) := by
  unfold keyEq at h
  split at h
  · split at h
    · rename_i k m k' n hk; subst hk; cases h; exact ⟨rfl, k, m, n, rfl, rfl, ieq_eq _ _⟩
    · cases h
  · cases h
/-- The search by integer keys: what it finds, and where. -/
theorem findA_ok {kk : Nat} {k : AV} {k' : Value} (hk : VR φ ρ k k') {ik : IntKind} : ∀ {es : List Ent} {en : List MapEntry} (i : Nat) {r : Option (Nat × Ent)}, EntsR φ ρ es en → findA kk k es i = some r →
    (r = none ∧ Instr.findNow (.int ik) k' en i = some none) ∨
    (∃ j e x, r = some (j, e) ∧ i ≤ j ∧ es[j - i]? = some e ∧ en[j - i]? = some x ∧ EntR φ ρ e x ∧ Instr.findNow (.int ik) k' en i = some (some (j, x.val)) ∧ x.key = k')
  | [], [], i, r, _, h => by simp [findA] at h; subst h; exact .inl ⟨rfl, rfl⟩
  | [], _ :: _, _, _, h, _ => h.elim
  | _ :: _, [], _, _, h, _ => h.elim
  | e :: l, x :: m, i, r, ⟨hr, ht⟩, h => by
    simp only [findA] at h
    split at h
    · rename_i hq
      obtain ⟨rfl, ki, a, b, rfl, hek, hx⟩ := keyEq_inv hq
      have hab : a = b := by simpa using hx.symm
      subst hab
      cases h
      refine .inr ⟨i, e, x, rfl, Nat.le_refl _, by simp, by simp, hr, ?_, ?_⟩
      · have hkey := hr.key
        rw [hek] at hkey
        cases hk
        cases hkk : x.key with
        | int k2 n2 => rw [hkk] at hkey; cases hkey; simp [Instr.findNow, Instr.sameNow, hkk]
        | _ => rw [hkk] at hkey; cases hkey
      · have hkey := hr.key
        rw [hek] at hkey
        cases hk
        cases hkk : x.key with
        | int k2 n2 => rw [hkk] at hkey; cases hkey; rfl
        | _ => rw [hkk] at hkey; cases hkey
    · rename_i hq
      obtain ⟨rfl, ki, a, b, rfl, hek, hx⟩ := keyEq_inv hq
      have hab : (a == b) = false := hx.symm
      have hstep : Instr.findNow (.int ik) k' (x :: m) i = Instr.findNow (.int ik) k' m (i + 1) := by
        have hkey := hr.key
        rw [hek] at hkey
        cases hk
        cases hkk : x.key with
        | int k2 n2 => rw [hkk] at hkey; cases hkey; simp [Instr.findNow, Instr.sameNow, hkk, hab]
        | _ => rw [hkk] at hkey; cases hkey
      rcases findA_ok hk (i + 1) ht h with ⟨h1, h2⟩ | ⟨j, e', x', h1, h2, h3, h4, h5, h6, h7⟩
      · exact .inl ⟨h1, by rw [hstep, h2]⟩
      · have hj : j - i = (j - (i + 1)) + 1 := by omega
        exact .inr ⟨j, e', x', h1, by omega, by rw [hj]; simpa using h3, by rw [hj]; simpa using h4, h5, by rw [hstep, h6], h7⟩
    · cases h
theorem keyKind_one {t : TypeId} (h : keyKind P t = 1) : ∃ ik, P.underlying t = some (.int ik) := by
  unfold keyKind at h
  split at h
  · exact ⟨_, by assumption⟩
  · simp at h
  · simp at h
theorem goodKey_inv {kk : Nat} {k : AV} (h : goodKey kk k = true) : kk = 1 ∧ ∃ i n, k = .int i n := by
  unfold goodKey at h
  split at h
  · exact ⟨rfl, _, _, rfl⟩
  · cases h
theorem run_checkKey {b : Bool} {t : TypeId} {ik : IntKind} (ht : P.underlying t = some (.int ik)) (v : Value) (n : Nat) : (Instr.checkKey b (n + 1) t v).run P w = .ok () w := by
  simp [Instr.checkKey, run_underlying ht]
theorem run_findKey {t : TypeId} {ik : IntKind} (ht : P.underlying t = some (.int ik)) {k : Value} {es : List MapEntry} {r} (h : Instr.findNow (.int ik) k es 0 = some r) : (Instr.findKey t k es).run P w = .ok r w := by
  simp [Instr.findKey, run_underlying ht, h]
/-- A map's entries. -/
theorem entries_fits (hw : WR B ng φ ρ h w) {m : AV} {m' : Value} (hm : VR φ ρ m m') {es : List Ent} (he : entriesA h m = some es) :
    ∃ en : Array MapEntry, EntsR φ ρ es en.toList ∧ ((m' = .map none ∧ en = #[] ∧ m = .nilm) ∨ ∃ r p c, m = .map r ∧ φ r = some p ∧ h.get r = some (.map es c) ∧ m' = .map (some p.blk) ∧ w.heap[p.blk]? = some (.map en c)) := by
  unfold entriesA at he
  split at he
  · cases he; cases hm; exact ⟨#[], trivial, .inl ⟨rfl, rfl, rfl⟩⟩
  · rename_i r
    split at he
    · rename_i es' c hg
      cases he
      cases hm with
      | map hp =>
        rename_i p
        obtain ⟨p', hp', ⟨en, h1, h2⟩, _⟩ := hw.obj r _ hg
        rw [hp] at hp'; cases hp'
        exact ⟨en, h2, .inr ⟨r, p, c, rfl, hp, hg, rfl, h1⟩⟩
    · cases he
  · cases he
theorem run_getObj_map {r : Nat} {en : Array MapEntry} {c : Nat} (h : w.heap[r]? = some (.map en c)) : (getObj r).run P w = .ok (.map en c) w := by simp [getObj, Sem.run, h]
theorem run_setObj_map {r : Nat} {en : Array MapEntry} {c : Nat} (o : Obj) (h : w.heap[r]? = some (.map en c)) : (setObj r o).run P w = .ok () (w.putObj r o) := by simp [setObj, Sem.run, h, World.putObj]
theorem zero1Of_inv {t : TypeId} {z : AV} (hz : zero1Of P t = some z) (φ : Phi) (ρ : Nat → UInt8) : ∃ i zv, P.info? t = some i ∧ i.zero = some zv ∧ VR φ ρ z zv := by
  unfold zero1Of at hz
  split at hz
  · rename_i i hi
    split at hz
    · rename_i zv hzv; cases hz; exact ⟨i, zv, hi, hzv, ofConst_ok zv⟩
    · cases hz
  · cases hz
theorem lookup_fits (hE : EnvOK P E) (hw : WR B ng φ ρ h w) {t : TypeId} {m k : AV} {m' k' : Value} (hm : VR φ ρ m m') (hk : VR φ ρ k k') {ok : Bool} {v : AV}
    (hb : lookupA (E.tk t) m k ok h = some v) : Fits P B ng φ ρ w h v (Instr.lookup t m' k' ok) := by
  generalize hkt : E.tk t = kt at hb
  unfold lookupA at hb
  split at hb
  · rename_i kk z es he
    obtain ⟨_, d, _, hd, hkd⟩ := tk_inv hE hkt (by simp)
    obtain ⟨kty, ety, rfl, rfl, hz, _, _⟩ := tkOf_map hkd
    obtain ⟨iz, zv, hiz, hzv, hvz⟩ := zero1Of_inv hz.symm φ ρ
    obtain ⟨en, hen, hcase⟩ := entries_fits hw hm he
    split at hb
    · rename_i i e hgk hf
      cases hb
      obtain ⟨h1, ki, kn, rfl⟩ := goodKey_inv hgk
      obtain ⟨ik, hik⟩ := keyKind_one h1
      rcases findA_ok hk 0 (ik := ik) hen hf with ⟨h, _⟩ | ⟨j, e', x, h2, _, _, _, h5, h6, _⟩
      · cases h
      · cases h2
        have hrun : (Instr.lookup t m' k' ok).run P w = .ok (if ok then .tuple #[x.val, .bool true] else x.val) w := by
          rcases hcase with ⟨rfl, rfl, _⟩ | ⟨r, p, c, _, _, _, rfl, hh⟩
          · simp [Instr.findNow] at h6
          · simp [Instr.lookup, run_underlying hd, run_getObj_map hh, run_checkKey hik, run_findKey hik h6]
        refine .pure hw hrun ?_
        cases ok
        · simpa using h5.val
        · simpa using VR.tup (.cons h5.val (.cons (.bool true) .nil))
    · rename_i hgk hf
      cases hb
      obtain ⟨h1, ki, kn, rfl⟩ := goodKey_inv hgk
      obtain ⟨ik, hik⟩ := keyKind_one h1
      rcases findA_ok hk 0 (ik := ik) hen hf with ⟨_, h6⟩ | ⟨j, e', x, h2, _⟩
      · have hrun : (Instr.lookup t m' k' ok).run P w = .ok (if ok then .tuple #[zv, .bool false] else zv) w := by
          rcases hcase with ⟨rfl, rfl, _⟩ | ⟨r, p, c, _, _, _, rfl, hh⟩
          · simp [Instr.lookup, run_underlying hd, run_checkKey hik, run_findKey hik h6, run_zero hiz hzv]
          · simp [Instr.lookup, run_underlying hd, run_getObj_map hh, run_checkKey hik, run_findKey hik h6, run_zero hiz hzv]
        refine .pure hw hrun ?_
        cases ok
        · simpa using hvz
        · simpa using VR.tup (.cons hvz (.cons (.bool false) .nil))
      · cases h2
    · cases hb
  · cases hb
end Bly
