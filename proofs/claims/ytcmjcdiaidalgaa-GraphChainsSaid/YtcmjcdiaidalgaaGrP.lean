/- Walks, and the search in breadth: plain. -/
import Derived.Test.YtcmjcdiaidalgaaGrA
set_option linter.unusedVariables false
set_option linter.unusedSimpArgs false
namespace Go.Gr

/-- a walk of L steps -/
def Wk (es : List (List Nat)) : Nat → Nat → Nat → Prop
  | 0, i, j => i = j
  | L + 1, i, j => ∃ k ∈ es.getD i [], Wk es L k j

/-- the search: back, depth, level, queue; i is being looked at, of its successors dn are done -/
structure Bfs (es : List (List Nat)) (fr : Nat) (bk : Nat → Int) (d : Nat → Nat) (m : Nat) (q : List Nat) (i : Nat) (dn : List Nat) : Prop where
  frlt : fr < es.length
  par : ∀ k, k < es.length → 0 ≤ bk k → ∃ p : Nat, bk k = p ∧ p < es.length ∧ (p = fr ∨ 0 ≤ bk p) ∧ k ∈ es.getD p [] ∧ d k = d p + 1
  bfr : bk fr < 0
  d0 : d fr = 0
  qv : ∀ k ∈ q, k < es.length ∧ (k = fr ∨ 0 ≤ bk k)
  ex : ∀ u, u < es.length → (u = fr ∨ 0 ≤ bk u) → u ∉ q → ∀ k ∈ es.getD u [], (u = i → k ∈ dn) → k ≠ fr ∧ 0 ≤ bk k ∧ d k ≤ d u + 1
  so : q.Pairwise fun a b => d a ≤ d b
  nd : q.Nodup
  up : ∀ v, v < es.length → (v = fr ∨ 0 ≤ bk v) → d v ≤ m + 1
  lo : ∀ v ∈ q, m ≤ d v
  ou : ∀ v, v < es.length → (v = fr ∨ 0 ≤ bk v) → v ∉ q → d v ≤ m

theorem Bfs.start {es : List (List Nat)} {fr : Nat} (h : fr < es.length) : Bfs es fr (fun _ => -1) (fun _ => 0) 0 [fr] es.length [] := by
  refine ⟨h, fun k _ hk => by omega, by show (-1 : Int) < 0; omega, rfl, ?_, ?_, by simp, by simp, fun _ _ _ => by omega, fun _ _ => by omega, fun _ _ _ _ => by omega⟩
  · intro k hk; simp at hk; subst hk; exact ⟨h, .inl rfl⟩
  · intro u hu hv hq k hk _
    rcases hv with rfl | hv
    · simp at hq
    · omega
theorem Bfs.pop {es : List (List Nat)} {fr : Nat} {bk : Nat → Int} {d : Nat → Nat} {m : Nat} {i : Nat} {q : List Nat} {i0 : Nat} (h : Bfs es fr bk d m (i :: q) i0 []) (h0 : es.length ≤ i0) : Bfs es fr bk d (d i) q i [] := by
  have hi := h.lo i (by simp)
  have hso := List.pairwise_cons.1 h.so
  have hnd := List.nodup_cons.1 h.nd
  refine ⟨h.frlt, h.par, h.bfr, h.d0, fun k hk => h.qv k (by simp [hk]), ?_, hso.2, hnd.2, ?_, hso.1, ?_⟩
  · intro u hu hv hq k hk hd
    by_cases e : u = i
    · have := hd e; simp at this
    · exact h.ex u hu hv (by simp [e, hq]) k hk (fun e => by omega)
  · intro v hv hvv
    have := h.up v hv hvv
    omega
  · intro v hv hvv hq
    by_cases e : v = i
    · subst e; omega
    · have := h.ou v hv hvv (by simp [e, hq]); omega
/-- all successors are done -/
theorem Bfs.done {es : List (List Nat)} {fr : Nat} {bk : Nat → Int} {d : Nat → Nat} {m : Nat} {i : Nat} {q : List Nat} {dn : List Nat} (h : Bfs es fr bk d m q i dn) (hd : ∀ k ∈ es.getD i [], k ∈ dn) : Bfs es fr bk d m q es.length [] :=
  ⟨h.frlt, h.par, h.bfr, h.d0, h.qv, fun u hu hv hq k hk _ => h.ex u hu hv hq k hk fun e => hd k (by rw [← e]; exact hk), h.so, h.nd, h.up, h.lo, h.ou⟩
/-- a successor that was seen before -/
theorem Bfs.seen {es : List (List Nat)} {fr : Nat} {bk : Nat → Int} {d : Nat → Nat} {i : Nat} {q : List Nat} {dn : List Nat} {k : Nat} (h : Bfs es fr bk d (d i) q i dn) (hk : k < es.length) (hf : k ≠ fr) (hb : 0 ≤ bk k) : Bfs es fr bk d (d i) q i (dn ++ [k]) := by
  refine ⟨h.frlt, h.par, h.bfr, h.d0, h.qv, ?_, h.so, h.nd, h.up, h.lo, h.ou⟩
  intro u hu hv hq k2 hk2 hd
  by_cases e : u = i
  · rcases List.mem_append.1 (hd e) with h1 | h1
    · exact h.ex u hu hv hq k2 hk2 fun _ => h1
    · simp at h1; subst h1
      exact ⟨hf, hb, by rw [e]; exact h.up _ hk (.inr hb)⟩
  · exact h.ex u hu hv hq k2 hk2 fun e2 => absurd e2 e
def upd {α : Type} (f : Nat → α) (k : Nat) (v : α) (j : Nat) : α := if j = k then v else f j
theorem upd_self {α : Type} (f : Nat → α) (k : Nat) (v : α) : upd f k v k = v := by simp [upd]
theorem upd_ne {α : Type} (f : Nat → α) {k j : Nat} (v : α) (h : j ≠ k) : upd f k v j = f j := by simp [upd, h]
/-- a successor that is new -/
theorem Bfs.add {es : List (List Nat)} {fr : Nat} {bk : Nat → Int} {d : Nat → Nat} {i : Nat} {q : List Nat} {dn : List Nat} {k : Nat} (h : Bfs es fr bk d (d i) q i dn) (hi : i < es.length) (hiv : i = fr ∨ 0 ≤ bk i) (hiq : i ∉ q) (hk : k < es.length) (hke : k ∈ es.getD i []) (hf : k ≠ fr) (hb : bk k < 0) :
    Bfs es fr (upd bk k i) (upd d k (d i + 1)) (upd d k (d i + 1) i) (q ++ [k]) i (dn ++ [k]) := by
  have hik : i ≠ k := by rintro rfl; rcases hiv with e | e; exact hf e; omega
  have hvk : ∀ v, (v = fr ∨ 0 ≤ bk v) → v ≠ k := by rintro v (e | e) rfl; exact hf e; omega
  have hqk : k ∉ q := fun hq => by rcases (h.qv k hq).2 with e | e; exact hf e; omega
  have hv' : ∀ v, (v = fr ∨ 0 ≤ upd bk k (i : Int) v) → v = k ∨ (v ≠ k ∧ (v = fr ∨ 0 ≤ bk v)) := by
    intro v hv
    by_cases e : v = k
    · exact .inl e
    · rw [upd_ne _ _ e] at hv; exact .inr ⟨e, hv⟩
  rw [upd_ne _ _ hik]
  refine ⟨h.frlt, ?_, by rw [upd_ne _ _ (Ne.symm hf)]; exact h.bfr, by rw [upd_ne _ _ (Ne.symm hf)]; exact h.d0, ?_, ?_, ?_, ?_, ?_, ?_, ?_⟩
  · intro j hj hbj
    by_cases e : j = k
    · subst e
      refine ⟨i, upd_self _ _ _, hi, ?_, hke, ?_⟩
      · rcases hiv with e | e; exact .inl e; exact .inr (by rw [upd_ne _ _ hik]; exact e)
      · rw [upd_self, upd_ne _ _ hik]
    · rw [upd_ne _ _ e] at hbj ⊢
      obtain ⟨p, h1, h2, h3, h4, h5⟩ := h.par j hj hbj
      have hpk := hvk p h3
      exact ⟨p, h1, h2, by rw [upd_ne _ _ hpk]; exact h3, h4, by rw [upd_ne _ _ e, upd_ne _ _ hpk]; exact h5⟩
  · intro j hj
    rcases List.mem_append.1 hj with h1 | h1
    · obtain ⟨h2, h3⟩ := h.qv j h1
      exact ⟨h2, by rw [upd_ne _ _ (hvk j h3)]; exact h3⟩
    · simp at h1; subst h1
      exact ⟨hk, .inr (by rw [upd_self]; omega)⟩
  · intro u hu hv hq k2 hk2 hd
    have huq : u ∉ q ∧ u ≠ k := by simpa using hq
    rcases hv' u hv with e | ⟨e, hv2⟩
    · exact absurd e huq.2
    · rw [upd_ne _ _ e]
      by_cases e2 : k2 = k
      · subst e2
        by_cases e3 : u = i
        · subst e3
          exact ⟨hf, by rw [upd_self]; omega, by rw [upd_self]; omega⟩
        · have := h.ex u hu hv2 huq.1 k2 hk2 fun e4 => absurd e4 e3
          omega
      · rw [upd_ne _ _ e2, upd_ne _ _ e2]
        refine h.ex u hu hv2 huq.1 k2 hk2 fun e3 => ?_
        rcases List.mem_append.1 (hd e3) with h1 | h1
        · exact h1
        · simp at h1; exact absurd h1 e2
  · rw [List.pairwise_append]
    refine ⟨h.so.imp_of_mem ?_, by simp, ?_⟩
    · intro a b ha hb2 hab
      rw [upd_ne _ _ (hvk a (h.qv a ha).2), upd_ne _ _ (hvk b (h.qv b hb2).2)]; exact hab
    · intro a ha b hb2
      simp at hb2; subst hb2
      rw [upd_self, upd_ne _ _ (hvk a (h.qv a ha).2)]
      exact h.up a (h.qv a ha).1 (h.qv a ha).2
  · rw [List.nodup_append]
    refine ⟨h.nd, by simp, ?_⟩
    intro a ha b hb2
    simp at hb2; subst hb2
    rintro rfl; exact hqk ha
  · intro v hv hvv
    rcases hv' v hvv with e | ⟨e, hv2⟩
    · subst e; rw [upd_self]; omega
    · rw [upd_ne _ _ e]; exact h.up v hv hv2
  · intro v hv
    rcases List.mem_append.1 hv with h1 | h1
    · rw [upd_ne _ _ (hvk v (h.qv v h1).2)]; exact h.lo v h1
    · simp at h1; subst h1; rw [upd_self]; omega
  · intro v hv hvv hq
    have huq : v ∉ q ∧ v ≠ k := by simpa using hq
    rcases hv' v hvv with e | ⟨e, hv2⟩
    · exact absurd e huq.2
    · rw [upd_ne _ _ e]; exact h.ou v hv hv2 huq.1
/-- a walk from the start stays among what is seen, and is not shorter than the depths tell -/
theorem Bfs.walk {es : List (List Nat)} {fr : Nat} {bk : Nat → Int} {d : Nat → Nat} {m : Nat} {i : Nat} {q : List Nat} {dn : List Nat} (hes : ∀ e ∈ es, ∀ k ∈ e, k < es.length) (h : Bfs es fr bk d m q i dn) {D : Nat} (hD : ∀ u, u < es.length → (u = fr ∨ 0 ≤ bk u) → d u < D → u ∉ q ∧ u ≠ i) :
    ∀ (L u : Nat), u < es.length → (u = fr ∨ 0 ≤ bk u) → d u + L < D + 1 → 0 < L → ¬ Wk es L u fr := by
  intro L
  induction L with
  | zero => intro u _ _ _ h0; omega
  | succ L ih =>
    rintro u hu hv hlt _ ⟨k, hk, hw⟩
    obtain ⟨h1, h2⟩ := hD u hu hv (by omega)
    obtain ⟨h3, h4, h5⟩ := h.ex u hu hv h1 k hk fun e => absurd e h2
    have hkl : k < es.length := by
      rw [List.getD_eq_getElem?_getD, List.getElem?_eq_getElem hu] at hk
      exact hes _ (List.getElem_mem hu) k hk
    rcases Nat.eq_zero_or_pos L with h0 | h0
    · subst h0; exact h3 hw
    · exact ih k hkl (.inr h4) (by omega) h0 hw
/-- nothing is left: the start needs not itself -/
theorem Bfs.none {es : List (List Nat)} {fr : Nat} {bk : Nat → Int} {d : Nat → Nat} {m : Nat} (hes : ∀ e ∈ es, ∀ k ∈ e, k < es.length) (h : Bfs es fr bk d m [] es.length []) (L : Nat) (h0 : 0 < L) : ¬ Wk es L fr fr :=
  h.walk hes (D := d fr + L) (fun u hu hv _ => ⟨by simp, by omega⟩) L fr h.frlt (.inl rfl) (by omega) h0
/-- i leads back to the start: no walk is shorter -/
theorem Bfs.least {es : List (List Nat)} {fr : Nat} {bk : Nat → Int} {d : Nat → Nat} {i : Nat} {q : List Nat} {dn : List Nat} (hes : ∀ e ∈ es, ∀ k ∈ e, k < es.length) (h : Bfs es fr bk d (d i) q i dn) (L : Nat) (h0 : 0 < L) (hw : Wk es L fr fr) : d i + 1 ≤ L := by
  rcases Nat.lt_or_ge L (d i + 1) with h1 | h1
  · exfalso
    have h2 := h.d0
    refine h.walk hes (D := d i) (fun u hu hv hlt => ⟨fun hq => ?_, fun e => ?_⟩) L fr h.frlt (.inl rfl) (by omega) h0 hw
    · have := h.lo u hq; omega
    · subst e; omega
  · exact h1
/-- the way back: from i over the backs -/
inductive Trail (es : List (List Nat)) (fr : Nat) : List Nat → Nat → Prop where
  | one (i : Nat) : Trail es fr [i] i
  | snoc {l : List Nat} {a p : Nat} (h : Trail es fr l a) (hp : a ∈ es.getD p []) : Trail es fr (l ++ [p]) p
end Go.Gr
