/- find: FindAll's second loop: what is wanted. -/
import Derived.Test.YtgafbagehjmipaaGl
namespace Go.Proofs.Ytgafbagehjmipaa
open Bly

/-- Behind i rounds of the second loop. -/
structure V2 (hB : H) (cW cA : Nat) (hs : List Int) (l : List Nat) (m : Nat) (hx : H) : Prop where
  kept : Kept hB hx
  w : ∃ v, hx.get cW = some (.cells [v] 1 true) ∧ Sl hx v true (wOf hs l) ∧ ∀ b, blk v = some b → cA < b
  a : ∃ v, hx.get cA = some (.cells [v] 1 true) ∧ Sl hx v true (aOf l) ∧ ∀ b, blk v = some b → cA < b
  sep : ∀ v u, hx.get cW = some (.cells [v] 1 true) → hx.get cA = some (.cells [u] 1 true) → ∀ b, blk v = some b → blk u ≠ some b
  hi : hx.next ≤ hB.next + 2 + m
  lo : hB.next + 2 ≤ hx.next
theorem V2.keep {hB : H} {cW cA : Nat} {hs : List Int} {l : List Nat} {m d : Nat} {hx h' : H} (hW : cW < hx.next) (hA : cA < hx.next) (hv : V2 hB cW cA hs l m hx) (hk : Kept hx h') (hn : h'.next ≤ hx.next + d) : V2 hB cW cA hs l (m + d) h' := by
  obtain ⟨k, ⟨v, w1, w2, w3⟩, ⟨u, a1, a2, a3⟩, sep, hi, lo⟩ := hv
  have e1 := hk.2 cW hW
  have e2 := hk.2 cA hA
  exact ⟨k.trans hk, ⟨v, e1.trans w1, w2.frame (fun b hb => hk.2 b (w2.blk_lt hb)) hk.1, w3⟩, ⟨u, e2.trans a1, a2.frame (fun b hb => hk.2 b (a2.blk_lt hb)) hk.1, a3⟩, fun v u h1 h2 => sep v u (e1.symm.trans h1) (e2.symm.trans h2), by omega, by have := hk.1; omega⟩
/-- A number is appended to a slice that lies in a cell. -/
theorem push1 {hx : H} {c : Nat} {v : AV} {L : List Int} {x : Int} (hc : hx.get c = some (.cells [v] 1 true)) (hs : Sl hx v true L) (hcl : c < hx.next) (hne : blk v ≠ some c) (hlt : hx.next + 3 ≤ HM) (hL : L.length ≤ 1000) :
    ∃ o h2 h3, appendA (E0.tk 22) (E0.tk 22) v (.slice hx.next 0 1 1) (hx.alc (.cells [.int .i64 x] (1 * 1) true)) = some (o, h2) ∧ cellsV o = some [o] ∧ storeA h2 ⟨1, false, some [.nils], 1, slK 3 8⟩ (.ptr c 0) o = some h3 ∧ h2.get c = some (.cells [v] 1 true) ∧
      h3.get c = some (.cells [o] 1 true) ∧ Sl h3 o true (L ++ [x]) ∧ (∀ b, b < hx.next → b ≠ c → blk v ≠ some b → h3.get b = hx.get b) ∧ (∀ b, b < hx.next → blk v ≠ some b → h2.get b = hx.get b) ∧ hx.next ≤ h2.next ∧ h3.next = h2.next ∧ h3.next ≤ hx.next + 2 ∧ (blk o = blk v ∨ ∃ b, blk o = some b ∧ hx.next ≤ b) := by
  have hlt1 : hx.next < HM := by omega
  obtain ⟨h1, e1⟩ : ∃ h1, h1 = hx.alc (.cells [.int .i64 x] (1 * 1) true) := ⟨_, rfl⟩
  have n1 : h1.next = hx.next + 1 := by rw [e1]; rfl
  have k1 : Kept hx h1 := by rw [e1]; exact Kept.alc hlt1
  have hx1 : Sl h1 (.slice hx.next 0 1 1) true [x] := .inr ⟨hx.next, ⟨0, [.int .i64 x], 1, rfl, by rw [e1, get_alc hlt1, if_pos rfl], by simp, rfl, rfl⟩, by omega⟩
  have hs1 : Sl h1 v true L := hs.frame (fun b hb => k1.2 b (hs.blk_lt hb)) k1.1
  obtain ⟨o, h2, a1, a2, a3, a4, a5, a6⟩ := hs1.append (e := 3) (eb := 8) hx1 (by omega) (by simp; omega) (by decide)
  have g2 : ∀ b, b < hx.next → blk v ≠ some b → h2.get b = hx.get b := fun b hb hnb => by rw [a5 b (by omega) hnb, k1.2 b hb]
  have hc2 : h2.get c = some (.cells [v] 1 true) := (g2 c hcl hne).trans hc
  have hcm : c < HM := by omega
  have ob : ∀ b, blk o = some b → b ≠ c := fun b hb => by
    rcases a6 with e | e
    · rw [e] at hb; exact fun e => hne (by rw [hb, e])
    · rw [e] at hb; cases hb; omega
  rw [← e1]
  refine ⟨o, h2, h2.put c (.cells [o] 1 true), by rw [tkE22]; exact a1, a2.cellsV, store1 rfl a2.cellsV hc2, hc2, gpe hcm, a2.frame (fun b hb => gpn hcm (ob b hb)) (Nat.le_refl _), fun b hb hbc hnb => (gpn hcm hbc).trans (g2 b hb hnb), g2, by omega, rfl, by show h2.next ≤ _; omega, ?_⟩
  rcases a6 with e | e
  · exact .inl e
  · exact .inr ⟨_, e, by omega⟩
theorem V2.push {hB : H} {cW cA : Nat} {hs : List Int} {l : List Nat} {m i : Nat} {hx : H} (hv : V2 hB cW cA hs l m hx) (eW : cW = hB.next) (eA : cA = hB.next + 1) (hl : l.length ≤ 100) (hlt : hx.next + 10 ≤ HM) :
    ∃ vw o h2 h3 va o' h5 h6, hx.get cW = some (.cells [vw] 1 true) ∧ avEq vw vw = true ∧ appendA (E0.tk 22) (E0.tk 22) vw (.slice hx.next 0 1 1) (hx.alc (.cells [.int .i64 (hs.getD i 0)] (1 * 1) true)) = some (o, h2) ∧
      storeA h2 ⟨1, false, some [.nils], 1, slK 3 8⟩ (.ptr cW 0) o = some h3 ∧ Kept hB h2 ∧ h2.get cW = some (.cells [vw] 1 true) ∧
      h3.get cA = some (.cells [va] 1 true) ∧ h3.next < HM ∧ appendA (E0.tk 22) (E0.tk 22) va (.slice h3.next 0 1 1) (h3.alc (.cells [.int .i64 (.ofNat (i+1))] (1 * 1) true)) = some (o', h5) ∧
      storeA h5 ⟨1, false, some [.nils], 1, slK 3 8⟩ (.ptr cA 0) o' = some h6 ∧ V2 hB cW cA hs (l ++ [i]) (m + 4) h6 := by
  obtain ⟨k, ⟨v, w1, w2, w3⟩, ⟨u, a1, a2, a3⟩, sep, hi, lo⟩ := hv
  have hwl : (wOf hs l).length = l.length := by simp [wOf]
  have hal : (aOf l).length = l.length := by simp [aOf]
  obtain ⟨o, h2, h3, p1, p2, p3, p4, p5, p6, p7, p8, p9, p10, p11, p12⟩ := push1 (x := hs.getD i 0) w1 w2 (by omega) (fun e => by have := w3 _ e; omega) (by omega) (by omega)
  have hvA : blk v ≠ some cA := fun e => by have := w3 _ e; omega
  have q1 : h3.get cA = some (.cells [u] 1 true) := (p7 cA (by omega) (by omega) hvA).trans a1
  have usep : ∀ b, blk u = some b → blk v ≠ some b := fun b hb e => sep v u w1 a1 b e hb
  have q2 : Sl h3 u true (aOf l) := a2.frame (fun b hb => p7 b (a2.blk_lt hb) (by have := a3 b hb; omega) (usep b hb)) (by omega)
  obtain ⟨o', h5, h6, r1, r2, r3, r4, r5, r6, r7, r8, r9, r10, r11, r12⟩ := push1 (x := Int.ofNat (i+1)) q1 q2 (by omega) (fun e => by have := a3 _ e; omega) (by omega) (by omega)
  have ob : ∀ b, blk o = some b → b < h3.next ∧ cA < b ∧ blk u ≠ some b := fun b hb => by
    have := p6.blk_lt hb
    rcases p12 with e | ⟨b', e, hge⟩
    · rw [e] at hb; exact ⟨this, w3 b hb, fun e2 => usep b e2 hb⟩
    · rw [e] at hb; cases hb
      exact ⟨this, by omega, fun e2 => by have := a2.blk_lt e2; omega⟩
  have g6 : ∀ b, b < hB.next → h6.get b = hB.get b := fun b hb => by
    rw [r7 b (by omega) (by omega) (fun e => by have := a3 b e; omega), p7 b (by omega) (by omega) (fun e => by have := w3 b e; omega)]; exact k.2 b hb
  have h6W : h6.get cW = some (.cells [o] 1 true) := (r7 cW (by omega) (by omega) (fun e => by have := a3 _ e; omega)).trans p5
  have h6o : Sl h6 o true (wOf hs l ++ [hs.getD i 0]) := p6.frame (fun b hb => r7 b (ob b hb).1 (by have := (ob b hb).2.1; omega) (ob b hb).2.2) (by omega)
  refine ⟨v, o, h2, h3, u, o', h5, h6, w1, w2.avEq, p1, p3, ⟨by omega, fun b hb => by rw [p8 b (by omega) (fun e => by have := w3 b e; omega)]; exact k.2 b hb⟩, p4, q1, by omega, r1, r3, ⟨by omega, g6⟩, ⟨o, h6W, by simpa [wOf] using h6o, fun b hb => (ob b hb).2.1⟩, ⟨o', r5, by simpa [aOf] using r6, fun b hb => ?_⟩, ?_, by omega, by omega⟩
  · rcases r12 with e | ⟨b', e, hge⟩
    · rw [e] at hb; exact a3 b hb
    · rw [e] at hb; cases hb; omega
  · intro v' u' e1 e2 b hb
    rw [h6W] at e1; cases e1
    rw [r5] at e2; cases e2
    rcases r12 with e | ⟨b', e, hge⟩
    · rw [e]; exact (ob b hb).2.2
    · rw [e]; intro e3; cases e3; have := (ob _ hb).1; omega
end Go.Proofs.Ytgafbagehjmipaa
