/- find: FindAll's first loop: every list is cut. -/
import Derived.Test.YtgafbagehjmipaaGg
namespace Go.Proofs.Ytgafbagehjmipaa
open Bly

theorem ti23 : E0.ti 23 = some ⟨1, false, some [.nils], 1, .slice 24 1 24 (some [.nils])⟩ := by kernel_rfl
theorem ti34 : E0.ti 34 = some ⟨1, false, some [.nilf], 1, .func⟩ := by kernel_rfl
theorem ti36 : E0.ti 36 = some ⟨1, false, some [.nilp], 1, .ptr⟩ := by kernel_rfl
theorem ti53 : E0.ti 53 = some ⟨1, false, some [.nilf], 1, .func⟩ := by kernel_rfl
theorem tkE23 : E0.tk 23 = .slice 24 1 24 (some [.nils]) := by unfold Env.tk; rw [ti23]
theorem tkE34 : E0.tk 34 = .func := by unfold Env.tk; rw [ti34]
theorem tkE36 : E0.tk 36 = .ptr := by unfold Env.tk; rw [ti36]

/-- o holds these lists of attributes. -/
structure Oss (h : H) (o : AV) (w w2 wv : Bool) (OL : List (List Att)) (os : List AV) : Prop where
  len : os.length = OL.length
  ar : Ar h o w 1 OL.length os
  val : ∀ (i : Nat) (L : List Att) (u : AV), OL[i]? = some L → os[i]? = some u → ∃ vs, Ats h u w2 wv L vs
theorem Oss.keep {h h' : H} {o : AV} {w w2 wv : Bool} {OL : List (List Att)} {os : List AV} (hs : Oss h o w w2 wv OL os) (hk : Kept h h') : Oss h' o w w2 wv OL os :=
  ⟨hs.len, hs.ar.keep hk, fun i L u h1 h2 => by obtain ⟨vs, h3⟩ := hs.val i L u h1 h2; exact ⟨vs, h3.keep hk⟩⟩
/-- What the argument holds, so far as it is looked at. -/
structure OssM (h : H) (o : AV) (OL : List (List Att)) (os : List AV) : Prop where
  len : os.length = OL.length
  ar : Ar h o false 1 OL.length os
  val : ∀ (i : Nat) (L : List Att) (u : AV), i < 20 → OL[i]? = some L → os[i]? = some u → ∃ vs, AtsM 10 h u false false L vs
theorem OssM.keep {h h' : H} {o : AV} {OL : List (List Att)} {os : List AV} (hs : OssM h o OL os) (hk : Kept h h') : OssM h' o OL os :=
  ⟨hs.len, hs.ar.keep hk, fun i L u h0 h1 h2 => by obtain ⟨vs, h3⟩ := hs.val i L u h0 h1 h2; exact ⟨vs, h3.keep hk⟩⟩
abbrev tiS : TI := ⟨1, false, some [.nils], 1, .slice 48 2 32 (some [.int .i64 0, .nils])⟩
theorem OssM.at {h : H} {o : AV} {OL : List (List Att)} {os : List AV} (ho : OssM h o OL os) {i : Nat} {u : AV} (hu : os[i]? = some u) :
    ∃ b off, indexAddrA (E0.tk 23) o (.int .i64 (.ofNat i)) = some (.ptr b off) ∧ ∀ h', Kept h h' → loadA h' tiS (.ptr b off) = some u := by
  have hi : i < OL.length := by rw [← ho.len]; exact (List.getElem?_eq_some_iff.1 hu).1
  obtain ⟨b, off, g1, _⟩ := ho.ar.idx (e := 24) (eb := 24) (z := some [.nils]) (k := .i64) hi
  refine ⟨b, off, by rw [tkE23]; exact g1, fun h' hk => ?_⟩
  obtain ⟨b', off', g1', g2⟩ := (ho.keep hk).ar.idx (e := 24) (eb := 24) (z := some [.nils]) (k := .i64) hi
  rw [g1] at g1'
  cases g1'
  exact g2 0 (by decide) rfl (by rw [Nat.mul_one, Nat.add_zero, nth_eq]; exact hu)
/-- u holds L, in blocks of F alone. -/
def Ins (h : H) (F : Nat → Prop) (u : AV) (L : List Att) : Prop := ∃ vs, Ats h u true true L vs ∧ (∀ c, blk u = some c → F c) ∧ ∀ v ∈ vs, ∀ c, blk v = some c → F c
theorem Ins.frame {h h' : H} {F F' : Nat → Prop} {u : AV} {L : List Att} (hs : Ins h F u L) (hn : h.next ≤ h'.next) (hf : ∀ c, F c → c < h.next → h'.get c = h.get c) (hF : ∀ c, F c → c < h.next → F' c) : Ins h' F' u L := by
  obtain ⟨vs, h1, h2, h3⟩ := hs
  have hv : ∀ i a v, L[i]? = some a → vs[i]? = some v → ∀ c, blk v = some c → c < h.next := fun i a v e1 e2 c hc => (h1.val i a v e1 e2).blk_lt hc
  have hlt : ∀ v ∈ vs, ∀ c, blk v = some c → c < h.next := fun v hv' c hc => by
    obtain ⟨j, hj⟩ := List.getElem?_of_mem hv'
    have hj' : j < L.length := by rw [← h1.len]; exact (List.getElem?_eq_some_iff.1 hj).1
    exact hv j _ v (List.getElem?_eq_getElem hj') hj c hc
  refine ⟨vs, ⟨h1.len, h1.ar.frame (fun c hc => hf c (h2 c hc) (h1.ar.blk_lt hc)) hn, fun i a v e1 e2 => (h1.val i a v e1 e2).frame (fun c hc => hf c (h3 v (List.mem_of_getElem? e2) c hc) (hv i a v e1 e2 c hc)) hn⟩, fun c hc => hF c (h2 c hc) (h1.ar.blk_lt hc), fun v hv' c hc => hF c (h3 v hv' c hc) (hlt v hv' c hc)⟩
theorem CutI.ins {h hx : H} {k m : Nat} {L : List Att} {l : AV} {us : List AV} (hI : CutI h k L (min L.length m) l us hx) : Ins hx (fun c => h.next ≤ c) l (cutL m k L) := by
  refine ⟨us, ?_, hI.new, fun v hv c hc => (hI.sep v hv c hc).1⟩
  have : L.take (min L.length m) = L.take m := by
    rcases Nat.le_total L.length m with h | h
    · rw [Nat.min_eq_left h, List.take_of_length_le (Nat.le_refl _), List.take_of_length_le h]
    · rw [Nat.min_eq_right h]
  have h1 := hI.ats
  rw [this] at h1
  exact h1
/-- Behind i rounds of the first loop. -/
structure LI (h : H) (OL : List (List Att)) (i : Nat) (l : AV) (us : List AV) (hx : H) : Prop where
  kept : Kept h hx
  len : us.length = i
  ar : Ar hx l true 1 i us
  new : ∀ b, blk l = some b → h.next ≤ b
  ins : ∀ (j : Nat) (u : AV) (L : List Att), us[j]? = some u → OL[j]? = some L → Ins hx (fun c => h.next ≤ c ∧ blk l ≠ some c) u (cutL 10 20 L)
  hi : hx.next ≤ h.next + 40 * i
theorem ofCells1 {u : AV} (hu : cellsV u = some [u]) : fillA (fun i => some (i * 1, 1)) (1 * 1) (copies 1 [AV.nils]) [(0, u)] = some [u] := by
  simp only [fillA, hu]
  rfl
theorem loop1_eq {fuel n : Nat} {h : H} {o : AV} {OL : List (List Att)} {os : List AV} (ho : OssM h o OL os) (hf : 30 < fuel) (hlt : h.next + 2000 ≤ HM) {i : Nat} {l : AV} {us : List AV} {hx : H} (hI : LI h OL i l us hx) (hi : i < OL.length) (hi20 : i < 20) :
    ∃ b off u0 u h1 l' h2, os[i]? = some u0 ∧ indexAddrA (E0.tk 23) o (.int .i64 (.ofNat i)) = some (.ptr b off) ∧ loadA hx tiS (.ptr b off) = some u0 ∧
      callA E0 O6 fuel (n+2) (.fn 7 []) [u0, .int .i64 (.ofNat 10), .int .i64 (.ofNat 20)] hx = some (u, h1) ∧ cellsV u = some [u] ∧ h1.next < HM ∧
      appendA (E0.tk 23) (E0.tk 23) l (.slice h1.next 0 1 1) (h1.alc (.cells [u] (1 * 1) true)) = some (l', h2) ∧ LI h OL (i+1) l' (us ++ [u]) h2 := by
  have hio : i < os.length := by rw [ho.len]; exact hi
  obtain ⟨u0, hu0⟩ : ∃ u0, os[i]? = some u0 := ⟨_, List.getElem?_eq_getElem hio⟩
  obtain ⟨b, off, g1, g2⟩ := ho.at hu0
  obtain ⟨vs, ha⟩ := ho.val i _ _ hi20 (List.getElem?_eq_getElem hi) hu0
  obtain ⟨hkept, hlen, har, hnew, hins, hhi⟩ := hI
  obtain ⟨u, h1, p1, vs', p2⟩ := cut_eq (fuel := fuel) (n := n) (m := 10) (k := 20) (ha.keep hkept) (by omega) (by omega) (by omega) (by omega)
  have hin := p2.ins
  have h1n : h1.next ≤ hx.next + 30 := by have := p2.hi; have : min OL[i].length 10 ≤ 10 := Nat.min_le_right _ _; omega
  have hk1 : Kept hx h1 := p2.kept
  have h1lt : h1.next < HM := by omega
  have hcv : cellsV u = some [u] := p2.ats.ar.cellsV
  obtain ⟨hy, ey⟩ : ∃ hy, hy = h1.alc (.cells [u] (1 * 1) true) := ⟨_, rfl⟩
  have hk2 : Kept h1 hy := by rw [ey]; exact Kept.alc h1lt
  have hyn : hy.next = h1.next + 1 := by rw [ey]; rfl
  have hx2 : Ar hy (.slice h1.next 0 1 1) true 1 1 [u] := .inr ⟨h1.next, ⟨0, [u], 1, rfl, by rw [ey, get_alc h1lt, if_pos rfl], by simp, rfl, rfl⟩, by omega⟩
  obtain ⟨l', h2, r1, r2, r3, r4, r5, r6⟩ := (har.keep (hk1.trans hk2)).append (e := 24) (eb := 24) (zs := [.nils]) hx2 (by omega) (by omega) (by decide) (by decide) rfl
  have hlb : ∀ c, blk l = some c → c < hx.next := fun c hc => har.blk_lt hc
  have hxn := hkept.1
  have hx1 := hk1.1
  have fr : ∀ c, c < hy.next → blk l ≠ some c → h2.get c = hy.get c := fun c hc hne => r5 c hc hne
  have newF : ∀ c, h.next ≤ c → c < hy.next → blk l ≠ some c → h.next ≤ c ∧ blk l' ≠ some c := fun c h1 h2 h3 => ⟨h1, by
    rcases r6 with e | e
    · rw [e]; exact h3
    · rw [e]; intro q; cases q; omega⟩
  refine ⟨b, off, u0, u, h1, l', h2, hu0, g1, g2 hx hkept, p1, hcv, h1lt, by rw [tkE23, ← ey]; exact r1, ⟨⟨by omega, fun c hc => ?_⟩, by simp [hlen], r2, ?_, ?_, by omega⟩⟩
  · rw [fr c (by omega) (fun e => by have := hnew c e; omega), hk2.2 c (by omega), hk1.2 c (by omega)]; exact hkept.2 c hc
  · intro c hc
    rcases r6 with e | e
    · rw [e] at hc; exact hnew c hc
    · rw [e] at hc; cases hc; omega
  · intro j v L hv hL
    by_cases hj : j < us.length
    · rw [List.getElem?_append_left hj] at hv
      exact (hins j v L hv hL).frame (by omega) (fun c ⟨_, hne⟩ hc => by rw [fr c (by omega) hne, hk2.2 c (by omega), hk1.2 c hc]) (fun c ⟨hge, hne⟩ hc => newF c hge (by omega) hne)
    · have hju : j = us.length := by
        have := (List.getElem?_eq_some_iff.1 hv).1
        simp at this; omega
      subst hju
      rw [List.getElem?_append_right (Nat.le_refl _), Nat.sub_self] at hv
      cases hv
      rw [hlen, List.getElem?_eq_getElem hi] at hL
      cases hL
      exact hin.frame (by omega) (fun c hge hc => by
        have hge : hx.next ≤ c := hge
        rw [fr c (by omega) (fun e => by have := hlb c e; omega), hk2.2 c hc]) (fun c hge hc => by
        have hge : hx.next ≤ c := hge
        exact newF c (by omega) (by omega) (fun e => by have := hlb c e; omega))
theorem LI.oss {h hx : H} {OL : List (List Att)} {l : AV} {us : List AV} {i : Nat} (hI : LI h OL i l us hx) (hi : i = min OL.length 20) : Oss hx l true true true ((OL.take 20).map (cutL 10 20)) us := by
  have hlen : ((OL.take 20).map (cutL 10 20)).length = i := by simp; omega
  refine ⟨by rw [hI.len, hlen], by rw [hlen]; exact hI.ar, fun j L u h1 h2 => ?_⟩
  have hj : j < i := by rw [← hlen]; exact (List.getElem?_eq_some_iff.1 h1).1
  rw [List.getElem?_map, List.getElem?_take, if_pos (by omega)] at h1
  obtain ⟨L0, e1, rfl⟩ := Option.map_eq_some_iff.1 h1
  obtain ⟨vs, g1, _⟩ := hI.ins j u L0 h2 e1
  exact ⟨vs, g1⟩
end Go.Proofs.Ytgafbagehjmipaa
