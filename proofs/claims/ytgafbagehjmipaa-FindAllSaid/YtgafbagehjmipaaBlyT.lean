/- append. -/
import Derived.Test.YtgafbagehjmipaaBlyN
namespace Bly
open Go Go.RowKit

variable {P : Program} {E : Env} {w : World} {φ : Phi} {ρ : Nat → UInt8} {B ng : Nat} {h h' : H}

theorem growBy_le (need : Nat) : ∀ (r c : Nat), c ≤ 2 * need + 192 → Builtin.growBy need r c ≤ 2 * need + 192
  | 0, c, h => h
  | r+1, c, h => by
    unfold Builtin.growBy
    split
    · exact h
    · exact growBy_le need r _ (by omega)
theorem nextslicecap_le {need old : Nat} (h : old < need) : Builtin.nextslicecap need old ≤ 2 * need + 192 := by
  unfold Builtin.nextslicecap
  split
  · omega
  · split
    · omega
    · exact growBy_le _ _ _ (by omega)
theorem fits_cap {need old by_ : Nat} (h : old < need) (h1 : need * by_ ≤ 1099511627776) (h2 : by_ ≤ 65536) : Builtin.nextslicecap need old * by_ ≤ 281474976710656 := by
  have := nextslicecap_le h
  have h3 : Builtin.nextslicecap need old * by_ ≤ (2 * need + 192) * by_ := Nat.mul_le_mul_right _ this
  have h4 : (2 * need + 192) * by_ = 2 * (need * by_) + 192 * by_ := by rw [Nat.add_mul, Nat.mul_assoc]
  omega

/-- What is appended: how many, and which cells; in whatever world of that heap. -/
structure Appended (P : Program) (φ : Phi) (ρ : Nat → UInt8) (w : World) (u : TypeId) (elem : TypeId) (size : Nat) (x' : Value) (xs : List AV) (n : Nat) (zeros : Bool) (news : List Value) : Prop where
  du : (zeros = true ∧ ∃ k, P.underlying u = some (.int k)) ∨ (zeros = false ∧ ((∃ e, P.underlying u = some (.slice e)) ∨ P.underlying u = some .string))
  vr : VRs φ ρ xs news
  ok : ∀ c ∈ xs, okCell c = true
  len : xs.length = n * size
  num : if zeros then ∃ k, x' = .int k n else (Builtin.lenOf x').run P w = .ok n w ∧ (Builtin.lenOf x').run P w.drew = .ok n w.drew
  run : zeros = false → (Builtin.firstCells size n x').run P w = .ok news.toArray w ∧ (Builtin.firstCells size n x').run P w.drew = .ok news.toArray w.drew
  zer : zeros = true → ∃ z i, P.info? elem = some i ∧ i.zero = some z ∧ z.cells.size = size ∧ news = copies n z.cells.toList
theorem appended_fits (hE : EnvOK P E) (hw : WR B ng φ ρ h w) {t u : TypeId} {elem esz eb : Nat} {z : Option (List AV)} (hkt : E.tk t = .slice elem esz eb z) {ie : TypeInfo} (hesz : esz = ie.size)
    {x : AV} {x' : Value} (hx : VR φ ρ x x') {xs : List AV} {n : Nat} (hb : appendedA (.slice elem esz eb z) (E.tk u) esz x h = some (xs, n)) :
    ∃ zeros news, Appended P φ ρ w u elem esz x' xs n zeros news := by
  generalize hku : E.tk u = ku at hb
  unfold appendedA at hb
  split at hb
  · rename_i k1 k2 m
    obtain ⟨_, du, _, hdu, hk⟩ := tk_inv hE hku (by simp)
    have := tkOf_int hk; subst this
    cases hx
    split at hb
    · rename_i e1 e2 e3 zz heq
      cases heq
      split at hb
      · rename_i hzl
        have hzl := Nat.eq_of_beq_eq_true hzl
        cases hb
        obtain ⟨_, dt, _, hdt, hkk⟩ := tk_inv hE hkt (by simp)
        obtain ⟨rfl, _, _, hz, _⟩ := tkOf_slice hkk
        obtain ⟨i, zv, hi, hzv, hvr, hok⟩ := zeroOf_inv hz.symm φ ρ
        refine ⟨true, copies n zv.cells.toList, ⟨.inl ⟨rfl, _, hdu⟩, hvr.copies n, fun c hc => hok c (copies_mem _ _ _ hc), by rw [copies_length, hzl], ?_, (fun h => by cases h), fun _ => ⟨zv, i, hi, hzv, ?_, rfl⟩⟩⟩
        · simp only [if_true]; exact ⟨k2, rfl⟩
        · have := hvr.length; simp at this; omega
      · cases hb
    · cases hb
  · obtain ⟨_, du, _, hdu, hk⟩ := tk_inv hE hku (by simp)
    obtain ⟨rfl, _⟩ := tkOf_slice hk
    cases hx; cases hb
    exact ⟨false, [], ⟨.inr ⟨rfl, .inl ⟨_, hdu⟩⟩, .nil, by simp, by simp, by simp [Builtin.lenOf], fun _ => by simp [Builtin.firstCells], (fun h => by cases h)⟩⟩
  · rename_i b off m esz'
    obtain ⟨_, du, _, hdu, hk⟩ := tk_inv hE hku (by simp)
    obtain ⟨rfl, _⟩ := tkOf_slice hk
    split at hb
    · rename_i he
      have he := Nat.eq_of_beq_eq_true he
      subst he
      split at hb
      · rename_i cs hl
        cases hb
        cases hx with
        | slice hp hsl =>
          rename_i p a cap
          obtain ⟨vs2, hrunA, hvr, hok, hlen⟩ := load_cells_any (P := P) hw hl hp
          have hrun := hrunA w rfl
          have hrun2 := hrunA w.drew rfl
          refine ⟨false, vs2, ⟨.inr ⟨rfl, .inl ⟨_, hdu⟩⟩, hvr, hok, by rw [hvr.length, hlen], by simp [Builtin.lenOf], fun _ => ?_, (fun h => by cases h)⟩⟩
          simp only [Builtin.firstCells]
          rcases hsl with ⟨rfl, _⟩ | ⟨rfl, _⟩
          · exact ⟨hrun, hrun2⟩
          · have h0 : 0 * esz = 0 := by simp
            rw [h0] at hlen ⊢
            have : vs2 = [] := List.eq_nil_of_length_eq_zero hlen
            subst this; exact ⟨rfl, rfl⟩
      · cases hb
    · cases hb
  · rename_i s
    obtain ⟨_, du, _, hdu, hk⟩ := tk_inv hE hku (by simp)
    have := tkOf_string hk; subst this
    split at hb
    · rename_i he
      have he := Nat.eq_of_beq_eq_true he
      obtain ⟨rfl, rfl⟩ : s = xs ∧ s.length = n := by simpa using hb
      cases hx with
      | str hs hsb =>
        rename_i s'
        have hl : s.length = s'.size := by have := hs.length; simpa using this
        rw [hl]
        have hfc : ∀ w1 : World, (Builtin.firstCells esz s'.size (.string s')).run P w1 = .ok (s'.data.toList.map bv).toArray w1 := by
          intro w1
          simp only [Builtin.firstCells, Sem.run_pure]
          congr 1
          apply Array.ext'
          have : s'.extract 0 s'.size = s' := ByteArray.extract_zero_size
          rw [this]
          simp
          intro a _; rfl
        exact ⟨false, _, ⟨.inr ⟨rfl, .inr hdu⟩, hs, fun c hc => isByte_ok (hsb c hc), by simp [hl, he], by simp [Builtin.lenOf], fun _ => ⟨hfc w, hfc w.drew⟩, (fun h => by cases h)⟩⟩
    · cases hb
  · cases hb

/-- '.. in place': the old block is let go, the new one lies where it lay. -/
theorem append_room (hw : WR B ng φ ρ h w) {b off m n esz l cap : Nat} {cs : List AV} (hg : h.get b = some (.cells cs l true)) {p : Pl} (hp : φ b = some p) (hl : off + m * esz ≤ l)
    {xs : List AV} {news : List Value} (hx : VRs φ ρ xs news) (hxo : ∀ c ∈ xs, okCell c = true) (hxl : xs.length = n * esz) (hcap : m + n ≤ cap) (hfit : p.sh + off + cap * esz ≤ p.size)
    {b' : Nat} (hn : (h.kill b).new (.cells ((cs.drop off).take (m * esz) ++ xs) ((m + n) * esz) true) = some (b', h')) :
    ∃ w' φ', (storeCells ⟨p.blk, p.sh + off + m * esz, none⟩ news).run P w = .ok () w' ∧ φ' b' = some ⟨p.blk, p.sh + off, p.size⟩ ∧ Step B φ w φ' w' ∧ WR B ng φ' ρ h' w' := by
  obtain ⟨p', c, hp', hlen, hfit', hok0, hc, hr⟩ := hw.cellsAt hg
  rw [hp] at hp'; cases hp'
  obtain ⟨e, fr, hheap, hsize, hfr⟩ := hc
  have hnl : news.length = n * esz := by rw [← hx.length, hxl]
  have hmn : (m + n) * esz = m * esz + n * esz := Nat.add_mul _ _ _
  have hroom : m * esz + n * esz ≤ cap * esz := by rw [← hmn]; exact Nat.mul_le_mul_right _ hcap
  have hone : ∀ v ∈ news, oneC v = true := by
    intro v hvm
    obtain ⟨i, hi, rfl⟩ := List.mem_iff_getElem.1 hvm
    have hi' : i < xs.length := by rw [hx.length]; exact hi
    obtain ⟨v', hv', hvr⟩ := hx.nth (i := i) (a := xs[i]) (by rw [nth_eq]; simp [hi'])
    rw [List.getElem?_eq_getElem hi] at hv'; cases hv'
    exact hvr.one (hxo _ (List.getElem_mem hi'))
  have hrun := run_storeCells_put (P := P) p.blk (p.sh + off + m * esz) e fr news 0 c w hheap (hfr rfl) (by omega) hone
  simp only [Nat.add_zero] at hrun
  have hb : b < HM := H.get_lt hg
  obtain ⟨rfl, hlt, hnx, hget⟩ := H.new_eq hn
  have hφ : φ h.next = none := hw.dom _ (Nat.le_refl _)
  have hle : PhiLe φ (φ.put h.next ⟨p.blk, p.sh + off, p.size⟩) := Phi.put_le hφ
  have hblt : p.blk < w.heap.size := hw.lt _ _ hp
  have hBp : B ≤ p.blk := by obtain ⟨p0, hp0, _, hB⟩ := hw.obj b _ hg; rw [hp] at hp0; cases hp0; exact hB rfl
  have hol : (over c.toList (p.sh + off + m * esz) news).length = c.toList.length := over_length _ _ _ (by simp; omega)
  have hcl : c.toList.length = p.size := by simp [hsize]
  rw [H.kill_next] at hlt hget hnx
  refine ⟨_, φ.put h.next ⟨p.blk, p.sh + off, p.size⟩, hrun, Phi.put_same (φ := φ) (b := h.next), ?_, ?_⟩
  · refine ⟨hle, fun b1 p1 h1 => ?_, ⟨rfl, rfl, rfl, by simp, fun k hk => World.putObj_heap_other (by omega)⟩, fun k hk hnk => World.putObj_heap_other (fun e => hnk b p hp e.symm), fun k r hk => ⟨r, (World.putObj_heap_other (fun e => by subst e; rw [hheap] at hk; cases hk)).trans hk⟩⟩
    change (if b1 = h.next then _ else φ b1) = _ at h1
    split at h1
    · cases h1; exact .inl ⟨b, p, hp, rfl⟩
    · exact .inl ⟨b1, p1, h1, rfl⟩
  · have old : ∀ b1 o1, h'.get b1 = some o1 → b1 ≠ h.next → b1 ≠ b ∧ h.get b1 = some o1 := by
      intro b1 o1 h1 hne
      rw [hget, if_neg (by simpa using hne), H.get_kill hb] at h1
      split at h1
      · cases h1
      · rename_i hne2; exact ⟨hne2, h1⟩
    refine ⟨fun b1 o1 h1 => ?_, fun b1 b2 o1 o2 p1 p2 h1 h2 e1 e2 hr1 he => ?_, fun b1 hb1 => ?_, fun b1 p1 h1 => ?_, by simpa using hw.low, fun g hgl => ?_⟩
    · by_cases hne : b1 = h.next
      · subst hne
        rw [hget, if_pos rfl] at h1; cases h1
        refine ⟨_, Phi.put_same, ⟨?_, ?_, ?_, (over c.toList (p.sh + off + m * esz) news).toArray, ?_, ?_⟩, fun _ => hBp⟩
        · simp [hlen, hxl, hmn]; omega
        · simp only; omega
        · intro x hx'
          rcases List.mem_append.1 hx' with hx' | hx'
          · exact hok0 x (List.mem_of_mem_drop (List.mem_of_mem_take hx'))
          · exact hxo x hx'
        · refine ⟨e, fr, World.putObj_heap_same hblt, by simp [hol, hsize], ?_⟩
          intro _ i hi; simp only [List.size_toArray, hol] at hi; exact hfr rfl i (by simpa using hi)
        · have h3 := ((hr.drop off).take (m * esz)).append hx
          rw [drop_take_drop _ _ _ _ _ hl] at h3
          have h4 : List.take ((m + n) * esz) (List.drop (p.sh + off) (over c.toList (p.sh + off + m * esz) news)) = List.take (m * esz) (List.drop (p.sh + off) c.toList) ++ news := by
            rw [over_eq _ _ _ (by omega), List.append_assoc, List.drop_append, List.drop_take]
            have h0 : p.sh + off - (List.take (p.sh + off + m * esz) c.toList).length = 0 := by simp; omega
            rw [h0, List.drop_zero, show p.sh + off + m * esz - (p.sh + off) = m * esz by omega, List.take_append]
            have h1 : (List.take (m * esz) (List.drop (p.sh + off) c.toList)).length = m * esz := by simp; omega
            rw [h1, List.take_take, show min ((m + n) * esz) (m * esz) = m * esz by omega, show (m + n) * esz - m * esz = news.length by omega, List.take_left]
          simp only [h4]
          exact h3.mono hle
      · obtain ⟨hneb, h1'⟩ := old b1 o1 h1 hne
        obtain ⟨q, hq, hor, hrq⟩ := hw.obj b1 o1 h1'
        refine ⟨q, hle _ _ hq, hor.keep hle (World.putObj_heap_other ?_), hrq⟩
        intro e; exact hneb (hw.inj b b1 _ o1 p q hg h1' hp hq rfl e.symm).symm
    · by_cases c1 : b1 = h.next <;> by_cases c2 : b2 = h.next
      · rw [c1, c2]
      · obtain ⟨hneb, h2'⟩ := old b2 o2 h2 c2
        subst c1; rw [Phi.put_same] at e1; cases e1
        have e2' : φ b2 = some p2 := by simpa [Phi.put, c2] using e2
        exact absurd (hw.inj b b2 _ o2 p p2 hg h2' hp e2' rfl he).symm hneb
      · obtain ⟨hneb, h1'⟩ := old b1 o1 h1 c1
        subst c2; rw [Phi.put_same] at e2; cases e2
        have e1' : φ b1 = some p1 := by simpa [Phi.put, c1] using e1
        exact absurd (hw.inj b1 b o1 _ p1 p h1' hg e1' hp hr1 he) hneb
      · obtain ⟨_, h1'⟩ := old b1 o1 h1 c1
        obtain ⟨_, h2'⟩ := old b2 o2 h2 c2
        exact hw.inj b1 b2 o1 o2 p1 p2 h1' h2' (by simpa [Phi.put, c1] using e1) (by simpa [Phi.put, c2] using e2) hr1 he
    · have hkn : (h.kill b).next = h.next := rfl
      have : b1 ≠ h.next := by omega
      simp [Phi.put, this]; exact hw.dom b1 (by omega)
    · change (if b1 = h.next then _ else φ b1) = _ at h1
      split at h1
      · cases h1; simpa using hblt
      · simpa using hw.lt _ _ h1
    · obtain ⟨s, hs⟩ := hw.glob g hgl; exact ⟨s, hle _ _ hs⟩


section
variable {t u ty elem : TypeId} {ie : TypeInfo} {zv : Value} {x' : Value} {base : Option Addr} {m cap n : Nat} {news : List Value}
theorem run_append_seq_room (htd : P.underlying t = some (.slice elem)) (hie : P.info? elem = some ie)
    (hdu : (∃ e, P.underlying u = some (.slice e)) ∨ P.underlying u = some .string) (hlen : (Builtin.lenOf x').run P w = .ok n w) (hfc : (Builtin.firstCells ie.size n x').run P w = .ok news.toArray w)
    (hcap : m + n ≤ cap) {w2 : World} (hst : (match base with | some a => (storeCells (a.add (m * ie.size)) news) | none => (pure () : Sem Unit)).run P w = .ok () w2) :
    (Builtin.append_ #[t, u] ty #[.slice base m cap, x']).run P w = .ok (.slice base (m + n) cap) w2 := by
  rcases hdu with ⟨e, hdu⟩ | hdu <;> cases base with
  | none => simp at hst; subst hst; simp [Builtin.append_, run_underlying htd, run_underlying hdu, run_sz hie, hlen, hcap, hfc]
  | some a => simp at hst; simp [Builtin.append_, run_underlying htd, run_underlying hdu, run_sz hie, hlen, hcap, hfc, hst]
theorem zeroCells_eq (hzs : 0 < zv.cells.size) (k : Nat) : Builtin.zeroCells zv.cells k = (copies k zv.cells.toList).toArray := by
  unfold Builtin.zeroCells; exact zeros_eq _ _ hzs
theorem run_append_seq_grow (htd : P.underlying t = some (.slice elem)) (hie : P.info? elem = some ie) (hzv : ie.zero = some zv) (hzs : 0 < zv.cells.size)
    (hm1 : m + n ≤ 1099511627776) (hm2 : (m + n) * ie.bytes ≤ 1099511627776) (hbs : ie.bytes ≤ 65536)
    (hdu : (∃ e, P.underlying u = some (.slice e)) ∨ P.underlying u = some .string) (hlen : (Builtin.lenOf x').run P w = .ok n w) (hfc : (Builtin.firstCells ie.size n x').run P w.drew = .ok news.toArray w.drew)
    (hcap : ¬ (m + n ≤ cap)) {olds : List Value} (hold : (Builtin.firstCells ie.size m (.slice base m cap)).run P w.drew = .ok olds.toArray w.drew) :
    (Builtin.append_ #[t, u] ty #[.slice base m cap, x']).run P w = .ok (.slice (some ⟨w.heap.size, 0, none⟩) (m + n) (grownCap w (m + n) cap elem))
      (w.drew.alloc (.cells (olds ++ news ++ copies (grownCap w (m + n) cap elem - (m + n)) zv.cells.toList).toArray elem)) := by
  have h63' : ¬ (9223372036854775807 < ((m : Int) + (n : Int))) := by omega
  have h48 := fits_cap (old := cap) (show cap < m + n by omega) hm2 hbs
  have h48' : ¬ (281474976710656 < Builtin.nextslicecap (m + n) cap * ie.bytes) := by omega
  rcases hdu with ⟨e, hdu⟩ | hdu <;>
  · simp [Builtin.append_, run_underlying htd, run_underlying hdu, run_sz hie, run_ti hie, hlen, hcap, h63', h48', Question.forced, hfc, hold, run_zero hie hzv, zeroCells_eq hzs, newRow, grownCap]
    try (congr 2; apply Array.ext'; simp [List.append_assoc])
theorem run_append_make_room (htd : P.underlying t = some (.slice elem)) (hie : P.info? elem = some ie) (hzv : ie.zero = some zv) (hzs : 0 < zv.cells.size) (hz2 : zv.cells.size = ie.size)
    (hm1 : n ≤ 1099511627776) (hnb : n * ie.bytes ≤ 1099511627776) {k kx : IntKind} (hdu : P.underlying u = some (.int k))
    (hcap : m + n ≤ cap) {w2 : World} (hst : (match base with | some a => (storeCells (a.add (m * ie.size)) (copies n zv.cells.toList)) | none => (pure () : Sem Unit)).run P w = .ok () w2) :
    (Builtin.append_ #[t, u] ty #[.slice base m cap, .int kx n]).run P w = .ok (.slice base (m + n) cap) w2 := by
  have hwr : IntKind.i64.wrap (n : Int) = n := wrap_nat (by omega)
  have hl1 : ¬ (281474976710656 < (n : Int) * (ie.bytes : Int)) := by
    have : ((n * ie.bytes : Nat) : Int) ≤ ((1099511627776 : Nat) : Int) := Int.ofNat_le.2 hnb
    rw [Int.natCast_mul] at this; omega
  have hl0 : ¬ ((n : Int) < 0) := by omega
  have hs0 : ie.size ≠ 0 := by omega
  by_cases hn0 : n = 0
  · subst hn0
    have hw0 : IntKind.i64.wrap 0 = 0 := by decide
    cases base with
    | none => simp at hst; subst hst; simp [Builtin.append_, run_underlying htd, run_underlying hdu, run_sz hie, run_ti hie, asInt, asIntOf, hw0, show m ≤ cap by omega]
    | some a => simp [copies] at hst; simp [Builtin.append_, run_underlying htd, run_underlying hdu, run_sz hie, run_ti hie, asInt, asIntOf, hw0, show m ≤ cap by omega, hst]
  · have hns : n * ie.size ≠ 0 := Nat.mul_ne_zero hn0 hs0
    cases base with
    | none => simp at hst; subst hst; simp [Builtin.append_, run_underlying htd, run_underlying hdu, run_sz hie, run_ti hie, asInt, asIntOf, hwr, hl1, hl0, hcap, run_zero hie hzv]
    | some a => simp at hst; simp [Builtin.append_, run_underlying htd, run_underlying hdu, run_sz hie, run_ti hie, asInt, asIntOf, hwr, hl1, hl0, hns, hcap, run_zero hie hzv, zeroCells_eq hzs, hst]
theorem run_append_make_grow (htd : P.underlying t = some (.slice elem)) (hie : P.info? elem = some ie) (hzv : ie.zero = some zv) (hzs : 0 < zv.cells.size) (hz2 : zv.cells.size = ie.size)
    (hm1 : m + n ≤ 1099511627776) (hm2 : (m + n) * ie.bytes ≤ 1099511627776) (hbs : ie.bytes ≤ 65536) {k kx : IntKind} (hdu : P.underlying u = some (.int k))
    (hcap : ¬ (m + n ≤ cap)) (hn0 : n ≠ 0) {olds : List Value} (hold : (Builtin.firstCells ie.size m (.slice base m cap)).run P w.drew = .ok olds.toArray w.drew) :
    (Builtin.append_ #[t, u] ty #[.slice base m cap, .int kx n]).run P w = .ok (.slice (some ⟨w.heap.size, 0, none⟩) (m + n) (grownCap w (m + n) cap elem))
      (w.drew.alloc (.cells (olds ++ copies n zv.cells.toList ++ copies (grownCap w (m + n) cap elem - (m + n)) zv.cells.toList).toArray elem)) := by
  have hwr : IntKind.i64.wrap (n : Int) = n := wrap_nat (by omega)
  have hnb : n * ie.bytes ≤ 1099511627776 := Nat.le_trans (Nat.mul_le_mul_right _ (by omega)) hm2
  have hl1 : ¬ (281474976710656 < (n : Int) * (ie.bytes : Int)) := by
    have : ((n * ie.bytes : Nat) : Int) ≤ ((1099511627776 : Nat) : Int) := Int.ofNat_le.2 hnb
    rw [Int.natCast_mul] at this; omega
  have hl0 : ¬ ((n : Int) < 0) := by omega
  have hs0 : ie.size ≠ 0 := by omega
  have hns : n * ie.size ≠ 0 := Nat.mul_ne_zero hn0 hs0
  have h63' : ¬ (9223372036854775807 < ((m : Int) + (n : Int))) := by omega
  have h48 := fits_cap (old := cap) (show cap < m + n by omega) hm2 hbs
  have h48' : ¬ (281474976710656 < Builtin.nextslicecap (m + n) cap * ie.bytes) := by omega
  simp [Builtin.append_, run_underlying htd, run_underlying hdu, run_sz hie, run_ti hie, asInt, asIntOf, hwr, hl1, hl0, hns, hcap, h63', h48', Question.forced, hold, run_zero hie hzv, zeroCells_eq hzs, newRow, grownCap]
end

theorem append_fits (hE : EnvOK P E) (hw : WR B ng φ ρ h w) {t u ty : TypeId} {s x v : AV} {s' x' : Value} (hs : VR φ ρ s s') (hx : VR φ ρ x x') (hb : appendA (E.tk t) (E.tk u) s x h = some (v, h')) :
    Fits P B ng φ ρ w h' v (Builtin.append_ #[t, u] ty #[s', x']) := by
  generalize hkt : E.tk t = kt at hb
  unfold appendA at hb
  split at hb
  · rename_i elem esz eb z
    obtain ⟨_, td, _, htd, hk⟩ := tk_inv hE hkt (by simp)
    obtain ⟨rfl, hesz, heb, hz, hkn⟩ := tkOf_slice hk
    obtain ⟨ie, zv, hie, hzv, hvr0, hok0⟩ := zeroOf_inv hz.symm φ ρ
    rw [cellsOf_eq hie] at hesz
    rw [bytesOf_eq hie] at heb
    split at hb
    · rename_i xs n happ hpos hzl hebl
      have hpos := blt_true.1 hpos
      have hzl := Nat.eq_of_beq_eq_true hzl
      have hebl := Nat.le_of_ble_eq_true hebl
      obtain ⟨zeros, news, ⟨hdu, hvr, hok, hlen, hnum, hrunA, hzer⟩⟩ := appended_fits hE hw hkt (ie := ie) hesz hx happ
      have hnl : news.length = n * esz := by rw [← hvr.length, hlen]
      have hzs : zv.cells.size = esz := by have := hvr0.length; simp at this; omega
      subst hesz
      subst heb
      -- both ways, for the two kinds of what is appended
      have room : ∀ {base : Option Addr} {m cap : Nat}, n ≤ 1099511627776 → n * ie.bytes ≤ 1099511627776 → m + n ≤ cap →
          ∀ w2, (match base with | some a => (storeCells (a.add (m * ie.size)) news) | none => (pure () : Sem Unit)).run P w = .ok () w2 →
            (Builtin.append_ #[t, u] ty #[.slice base m cap, x']).run P w = .ok (.slice base (m + n) cap) w2 := by
        intro base m cap h1 h2 h3 w2 h4
        rcases hdu with ⟨rfl, k, hdu⟩ | ⟨rfl, hdu⟩
        · obtain ⟨kx, rfl⟩ := by simpa using hnum
          obtain ⟨z1, i1, hi1, hz1, _, rfl⟩ := hzer rfl
          rw [hie] at hi1; cases hi1; rw [hzv] at hz1; cases hz1
          exact run_append_make_room htd hie hzv (by omega) hzs h1 h2 hdu h3 h4
        · simp only [Bool.false_eq_true, if_false] at hnum
          exact run_append_seq_room htd hie hdu hnum.1 (hrunA rfl).1 h3 h4
      have grow : ∀ {base : Option Addr} {m cap : Nat}, m + n ≤ 1099511627776 → (m + n) * ie.bytes ≤ 1099511627776 → n ≠ 0 → ¬ (m + n ≤ cap) → ∀ {olds : List Value},
          (Builtin.firstCells ie.size m (.slice base m cap)).run P w.drew = .ok olds.toArray w.drew →
          (Builtin.append_ #[t, u] ty #[.slice base m cap, x']).run P w = .ok (.slice (some ⟨w.heap.size, 0, none⟩) (m + n) (grownCap w (m + n) cap elem))
            (w.drew.alloc (.cells (olds ++ news ++ copies (grownCap w (m + n) cap elem - (m + n)) zv.cells.toList).toArray elem)) := by
        intro base m cap h1 h2 h0 h3 olds h4
        rcases hdu with ⟨rfl, k, hdu⟩ | ⟨rfl, hdu⟩
        · obtain ⟨kx, rfl⟩ := by simpa using hnum
          obtain ⟨z1, i1, hi1, hz1, _, rfl⟩ := hzer rfl
          rw [hie] at hi1; cases hi1; rw [hzv] at hz1; cases hz1
          exact run_append_make_grow htd hie hzv (by omega) hzs h1 h2 hebl hdu h3 h0 h4
        · simp only [Bool.false_eq_true, if_false] at hnum
          exact run_append_seq_grow htd hie hzv (by omega) h1 h2 hebl hdu hnum.1 (hrunA rfl).2 h3 h4
      split at hb
      · rename_i hn0
        have hn0 := Nat.eq_of_beq_eq_true hn0
        subst hn0
        have hnews : news = [] := List.eq_nil_of_length_eq_zero (by simpa using hnl)
        subst hnews
        split at hb
        · cases hs; cases hb
          exact .pure (v' := .slice none 0 0) hw (room (base := none) (m := 0) (cap := 0) (by omega) (by simp) (by omega) w rfl) .nils
        · rename_i b off m esz'
          split at hb
          · cases hb
            cases hs with
            | slice hp hsl =>
              rename_i p a cap
              have hmc : m ≤ cap := by rcases hsl with ⟨_, h, _⟩ | ⟨h, h'⟩ <;> omega
              exact .pure (v' := .slice (some a) m cap) hw (room (base := some a) (m := m) (cap := cap) (by omega) (by simp) (by omega) w (by simp [storeCells])) (.slice hp hsl)
          · cases hb
        · cases hb
      · rename_i hn0
        have hn0 : n ≠ 0 := by intro h; subst h; simp at hn0
        split at hb
        · split at hb
          · rename_i g1 g2
            have g1 := Nat.le_of_ble_eq_true g1
            have g2 := Nat.le_of_ble_eq_true g2
            split at hb
            · rename_i b h1 hn
              cases hb
              cases hs
              have hrun := grow (base := none) (m := 0) (cap := 0) (by omega) (by simpa using g2) hn0 (by omega) (olds := []) (by simp [Builtin.firstCells])
              simp only [Nat.zero_add, List.nil_append] at hrun
              have hg := le_grownCap w n 0 elem
              obtain ⟨φ', hb', hst, hwr⟩ := new_row (w := w.drew) (e := elem) (hw.same rfl) hn hvr hlen hok (copies (grownCap w n 0 elem - n) zv.cells.toList)
              refine ⟨_, _, φ', hrun, (Step.drew).trans hst, hwr, .slice hb' (.inl ⟨rfl, hg, ?_⟩)⟩
              simp only [Nat.zero_add, copies_length, hnl, Array.length_toList, hzs]
              rw [← Nat.add_mul]
              exact Nat.mul_le_mul_right _ (by omega)
            · cases hb
          · cases hb
        · rename_i b off m esz'
          split at hb
          · rename_i cs l hg
            split at hb
            · rename_i g1 g2 g3 g4
              have g1 := Nat.eq_of_beq_eq_true g1
              have g2 := Nat.le_of_ble_eq_true g2
              have g3 := Nat.le_of_ble_eq_true g3
              have g4 := Nat.le_of_ble_eq_true g4
              subst g1
              split at hb
              · rename_i b2 h2 hn
                cases hb
                cases hs with
                | slice hp hsl =>
                  rename_i p a cap
                  by_cases hcap : m + n ≤ cap
                  · rcases hsl with ⟨rfl, _, hfit⟩ | ⟨h0, h0'⟩
                    · obtain ⟨w', φ', hst, hb', hstep, hwr⟩ := append_room (P := P) hw hg hp g2 hvr hok hlen hcap hfit hn
                      refine ⟨_, w', φ', room (by omega) (Nat.le_trans (Nat.mul_le_mul_right _ (by omega)) g4) hcap w' (by simpa [addr_add] using hst), hstep, hwr, .slice hb' (.inl ⟨rfl, hcap, ?_⟩)⟩
                      simpa using hfit
                    · omega
                  · have hload : loadCellsA h b off (m * ie.size) = some ((cs.drop off).take (m * ie.size)) := by
                      unfold loadCellsA; rw [hg]; simp only
                      rw [show Nat.ble (off + m * ie.size) l = true by rw [Nat.ble_eq]; exact g2]
                    obtain ⟨olds, hrunO, hvrO, hokO, hlenO⟩ := load_cells_any (P := P) hw hload hp
                    have hold : (Builtin.firstCells ie.size m (.slice (some a) m cap)).run P w.drew = .ok olds.toArray w.drew := by
                      simp only [Builtin.firstCells]
                      rcases hsl with ⟨rfl, _⟩ | ⟨rfl, _⟩
                      · exact hrunO _ rfl
                      · have : olds = [] := List.eq_nil_of_length_eq_zero (by simpa using hlenO)
                        subst this
                        simp [loadCells, loadCellsFrom]
                    have hrun := grow g3 g4 hn0 hcap hold
                    have hgc := le_grownCap w (m + n) cap elem
                    have hmn : (m + n) * ie.size = m * ie.size + n * ie.size := Nat.add_mul _ _ _
                    obtain ⟨φ', hb', hst, hwr⟩ := new_row (w := w.drew) (e := elem) ((hw.kill (H.get_lt hg)).same rfl) hn (hvrO.append hvr)
                      (by rw [List.length_append, hvrO.length, hlenO, hlen, hmn]) (fun c hc => by rcases List.mem_append.1 hc with h | h; exact hokO c h; exact hok c h)
                      (copies (grownCap w (m + n) cap elem - (m + n)) zv.cells.toList)
                    refine ⟨_, _, φ', hrun, (Step.drew).trans hst, hwr, .slice hb' (.inl ⟨rfl, hgc, ?_⟩)⟩
                    simp only [Nat.zero_add, copies_length, List.length_append, hlenO, hnl, Array.length_toList, hzs]
                    rw [← Nat.add_mul, ← Nat.add_mul]
                    exact Nat.mul_le_mul_right _ (by omega)
              · cases hb
            · cases hb
          · cases hb
        · cases hb
    · cases hb
  · cases hb
end Bly
