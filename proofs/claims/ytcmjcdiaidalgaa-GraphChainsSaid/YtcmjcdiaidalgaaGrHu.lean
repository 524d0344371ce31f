/- The order's heap: what is left, who stands behind whom, what comes out, and the ready ones. -/
import Derived.Test.YtcmjcdiaidalgaaGrHt
namespace Go.Proofs
open Go.Mt Go.Gr
set_option maxRecDepth 4000
set_option linter.unusedSimpArgs false
set_option linter.unusedVariables false

def cellsM (n : Nat) (f : Nat → M) : List M := (List.range n).map f
theorem cellsM_get {n : Nat} {f : Nat → M} {k : Nat} (h : k < n) : (cellsM n f)[((k : Nat) : Int).toNat * 1]? = some (f k) := by simp [cellsM, h]
theorem cellsM_congr {n : Nat} {f g : Nat → M} (h : ∀ k, k < n → f k = g k) : cellsM n f = cellsM n g := by
  unfold cellsM
  apply List.map_congr_left
  intro k hk
  rw [h k (List.mem_range.1 hk)]
theorem cellsM_write {n : Nat} {f g : Nat → M} {k : Nat} {v : M} (h : k < n) (hv : g k = v) (hg : ∀ j, j < n → j ≠ k → g j = f j) : writeAt (cellsM n f) (((k : Nat) : Int).toNat * 1) [v] = some (cellsM n g) := by
  have e : ((k : Nat) : Int).toNat * 1 = k := by omega
  rw [e]
  unfold writeAt
  have hb : Nat.ble (k + [v].length) (cellsM n f).length = true := by
    rw [Nat.ble_eq]; simp [cellsM]; omega
  rw [hb]
  simp only [cond_true]
  congr 1
  apply List.ext_getElem
  · simp [cellsM]; try omega
  · intro j h1 h2
    simp only [cellsM, List.length_map, List.length_range] at h2
    rcases Nat.lt_trichotomy j k with h3 | h3 | h3
    · rw [List.getElem_append_left (by simp [cellsM]; omega), List.getElem_append_left (by simp [cellsM]; omega)]
      simp [cellsM, hg j h2 (by omega)]
    · subst h3
      rw [List.getElem_append_left (by simp [cellsM]; omega), List.getElem_append_right (by simp [cellsM]; omega)]
      simp [cellsM, hv, Nat.min_eq_left (Nat.le_of_lt h)]
    · rw [List.getElem_append_right (by simp [cellsM]; omega)]
      simp [cellsM, Nat.min_eq_left (Nat.le_of_lt h), hg j h2 (by omega)]
      congr 1
      omega
/-- growing lists in the heap, by their places; r: another object's place -/
structure Beh (H : Hp) (N r : Nat) (g : Nat → Nat) (b : Nat → List Nat) : Prop where
  at_ : ∀ k, k < N → b k ≠ [] → H[g k]? = some (.row true 1 ((b k).length - 1) (flatM (natsR (b k)))) ∧ 2 ≤ g k ∧ g k ≠ r
  inj : ∀ k k', k < N → k' < N → b k ≠ [] → b k' ≠ [] → g k = g k' → k = k'
theorem hlt {H : Hp} {i : Nat} {ob : Ob} (h : H[i]? = some ob) : i < H.length := by
  rcases Nat.lt_or_ge i H.length with h1 | h1
  · exact h1
  · simp [List.getElem?_eq_none h1] at h
theorem genM_cons (p : Nat) {l : List Nat} (h : l ≠ []) : genM p (natsR l) = .rsl p (l.length - 1) l.length := by
  cases l with
  | nil => exact absurd rfl h
  | cons a r => simp [natsR, genM]
theorem setSelf {H : Hp} {i : Nat} (h : i < H.length) (ob : Ob) : (H.set i ob)[i]? = some ob := by simp [h]
/-- another object changes -/
theorem Beh.set {H : Hp} {N r : Nat} {g : Nat → Nat} {b : Nat → List Nat} (h : Beh H N r g b) (q : Nat) (ob : Ob) (hq : q < 2 ∨ q = r) : Beh (H.set q ob) N r g b :=
  ⟨fun k hk hb => by
    obtain ⟨h1, h2, h3⟩ := h.at_ k hk hb
    exact ⟨by rw [List.getElem?_set_ne (by omega)]; exact h1, h2, h3⟩, h.inj⟩
theorem Beh.push {H : Hp} {N r : Nat} {g : Nat → Nat} {b : Nat → List Nat} (h : Beh H N r g b) (ob : Ob) : Beh (H ++ [ob]) N H.length g b :=
  ⟨fun k hk hb => by
    obtain ⟨h1, h2, h3⟩ := h.at_ k hk hb
    have := hlt h1
    exact ⟨by rw [List.getElem?_append_left this]; exact h1, h2, by omega⟩, h.inj⟩
theorem Beh.new {H : Hp} {N r : Nat} {g : Nat → Nat} {b : Nat → List Nat} (h : Beh H N r g b) {k : Nat} (hk : b k = []) (x : Nat) (h2 : 2 ≤ H.length) (hr : r < H.length) :
    Beh (H ++ [.row true 1 0 (flatM (natsR [x]))]) N r (fun j => if j = k then H.length else g j) (fun j => if j = k then [x] else b j) := by
  refine ⟨fun j hj hb => ?_, fun j j' hj hj' hb hb' he => ?_⟩
  · by_cases e : j = k
    · subst e; simp; exact ⟨h2, by omega⟩
    · simp only [e, if_false] at hb ⊢
      obtain ⟨h3, h4, h5⟩ := h.at_ j hj hb
      exact ⟨by rw [List.getElem?_append_left (hlt h3)]; exact h3, h4, h5⟩
  · by_cases e : j = k <;> by_cases e' : j' = k <;> simp only [e, e', if_true, if_false] at hb hb' he
    · omega
    · have := hlt (h.at_ j' hj' hb').1; omega
    · have := hlt (h.at_ j hj hb).1; omega
    · exact h.inj j j' hj hj' hb hb' he
theorem Beh.more {H : Hp} {N r : Nat} {g : Nat → Nat} {b : Nat → List Nat} (h : Beh H N r g b) {k : Nat} (hkN : k < N) (hk : b k ≠ []) (x : Nat) :
    Beh (H.set (g k) (.row true 1 (b k).length (flatM (natsR (b k ++ [x]))))) N r g (fun j => if j = k then b k ++ [x] else b j) := by
  obtain ⟨q1, q2, q3⟩ := h.at_ k hkN hk
  refine ⟨fun j hj hb => ?_, fun j j' hj hj' hb hb' he => ?_⟩
  · by_cases e : j = k
    · subst e
      have := hlt q1
      simp [this]; exact ⟨q2, q3⟩
    · simp only [e, if_false] at hb ⊢
      obtain ⟨h3, h4, h5⟩ := h.at_ j hj hb
      exact ⟨by rw [List.getElem?_set_ne (fun h6 => e (h.inj j k hj hkN hb hk h6.symm))]; exact h3, h4, h5⟩
  · refine h.inj j j' hj hj' ?_ ?_ he
    · by_cases e : j = k
      · subst e; exact hk
      · simpa [e] using hb
    · by_cases e : j' = k
      · subst e; exact hk
      · simpa [e] using hb'
theorem Beh.view {H : Hp} {N r : Nat} {g : Nat → Nat} {b : Nat → List Nat} (h : Beh H N r g b) {k : Nat} (hk : k < N) : viewV H (genM (g k) (natsR (b k))) = some (.sl (natsR (b k))) := by
  by_cases e : b k = []
  · rw [e]; rfl
  · obtain ⟨h1, _, _⟩ := h.at_ k hk e
    have hl : (b k).length ≠ 0 := fun h => e (List.length_eq_zero_iff.1 h)
    refine Acc.view (n := 1) (i := g k) (.inr ⟨fun h2 => e (by simpa [natsR] using h2), (b k).length - 1, ?_, h1⟩) (natsR_lens _)
    rw [genM_cons _ e, natsR_len]
section
variable {X : Ctx} {ops : Array Oper} {rest : List Oper} {sl : List (Nat × V)} {bx : List (Nat × List M)} {post : St → Prop} {d ty : Nat} {pos : String} {af : Array Edge}
/-- one more at the end of one of these lists -/
theorem t_snocB {T e nb : Nat} {x y : Operand} {H : Hp} {N r : Nat} {g : Nat → Nat} {b : Nat → List Nat} {k v : Nat} {z : D} [ht : TySlice X.P T e] [hs : TySz X.P e 1] [hb : TyB X.P e nb] [hz : TyZ X.P e z] (h : Beh H N r g b) (hk : k < N) (hH2 : 2 ≤ H.length) (hrl : r < H.length) (hn : Nat.blt d X.n = true)
    (hx : evs sl x = some (.m (genM (g k) (natsR (b k))))) (hy : evs sl y = some (.m (.d (.sl [[.int .i64 (v : Nat)]])))) (hzl : (dcells z).length = 1) (hroom : ((b k).length + 1) * nb ≤ 140737488355328) (hmax : (b k).length + 1 ≤ 140737488355328)
    (kk : ∀ g' H', Beh H' N r g' (fun j => if j = k then b k ++ [v] else b j) → (∀ j, j ≠ k → g' j = g j) → (∀ q, q < 2 ∨ q = r → H'[q]? = H[q]?) → 2 ≤ H'.length → r < H'.length → TL X ops rest ⟨(d, .m (genM (g' k) (natsR (b k ++ [v])))) :: sl, bx, H'⟩ post) :
    TL X ops (⟨some d, .call ⟨.builtin .append, #[x, y], #[T, T]⟩, ty, pos, af, none⟩ :: rest) ⟨sl, bx, H⟩ post := by
  by_cases he : b k = []
  · rw [he] at hx
    refine t_append0 true hn hx hy rfl hzl (by simp) (by exact one_len rfl) (by rw [he] at hroom; simpa using hroom) ?_
    have := kk (fun j => if j = k then H.length else g j) (H ++ [.row true 1 0 (flatM (natsR [v]))]) (by rw [he]; exact h.new he v hH2 hrl) (fun j hj => by simp [hj]) (fun q hq => by rw [List.getElem?_append_left (by omega)]) (by simp; omega) (by simp; omega)
    rw [he] at this
    simpa [natsR, genM] using this
  · obtain ⟨h1, h2, h3⟩ := h.at_ k hk he
    rw [genM_cons _ he] at hx
    refine t_appendR (acc := true) (cs := flatM (natsR (b k))) hn hx hy h1 hzl (one_len rfl) (by simpa using hroom) (by simpa using hmax) ?_
    have hl : (b k).length ≠ 0 := fun h => he (List.length_eq_zero_iff.1 h)
    have := kk g (H.set (g k) (.row true 1 (b k).length (flatM (natsR (b k ++ [v]))))) (h.more hk he v) (fun _ _ => rfl) (fun q hq => by rw [List.getElem?_set_ne (by omega)]) (by simp; omega) (by simp; omega)
    rw [genM_cons _ (by simp)] at this
    have e1 : (b k).length - 1 + 1 = (b k).length := by omega
    have e2 : flatM (natsR (b k ++ [v])) = flatM (natsR (b k)) ++ flatM [[D.int .i64 (v : Nat)]] := by simp [flatM, natsR]
    rw [e2] at this
    rw [e1]
    simpa using this
end
/-- the heap of Order -/
structure OS (n : Nat) (H : Hp) (g : Nat → Nat) (b : Nat → List Nat) (r : Nat) (m : M) (c : Nat) (h : Nat → Nat) (lf : Nat → D) : Prop where
  h0 : H[0]? = some (.row false 1 0 (cellsF n lf))
  h1 : H[1]? = some (.row false 1 0 (cellsM n fun k => genM (g k) (natsR (b k))))
  beh : Beh H (n + 1) r g b
  rdy : (r = 0 ∧ m = .d (.sl []) ∧ c = 0) ∨ (2 ≤ r ∧ ∃ ver, m = .rsl r ver c ∧ H[r]? = some (.row false 1 ver (cellsF c (hD h))))
  hp : Heap c h
  inj : Inj c h
theorem OS.len {n : Nat} {H : Hp} {g : Nat → Nat} {b : Nat → List Nat} {r : Nat} {m : M} {c : Nat} {h : Nat → Nat} {lf : Nat → D} (o : OS n H g b r m c h lf) : 2 ≤ H.length ∧ r < H.length := by
  have := hlt o.h1
  refine ⟨this, ?_⟩
  rcases o.rdy with ⟨rfl, _, _⟩ | ⟨_, _, _, h2⟩
  · omega
  · exact hlt h2
theorem OS.left {n : Nat} {H : Hp} {g : Nat → Nat} {b : Nat → List Nat} {r : Nat} {m : M} {c : Nat} {h : Nat → Nat} {lf lf' : Nat → D} (o : OS n H g b r m c h lf) : OS n (H.set 0 (.row false 1 0 (cellsF n lf'))) g b r m c h lf' := by
  have hl := o.len
  refine ⟨setSelf (by omega) _, by rw [List.getElem?_set_ne (by omega)]; exact o.h1, o.beh.set 0 _ (.inl (by omega)), ?_, o.hp, o.inj⟩
  rcases o.rdy with h1 | ⟨h1, ver, h2, h3⟩
  · exact .inl h1
  · exact .inr ⟨h1, ver, h2, by rw [List.getElem?_set_ne (by omega)]; exact h3⟩
/-- one of the lists is another one, and its cell behind -/
theorem OS.lists {n : Nat} {H H' : Hp} {g g' : Nat → Nat} {b b' : Nat → List Nat} {r : Nat} {m : M} {c : Nat} {h : Nat → Nat} {lf : Nat → D} (o : OS n H g b r m c h lf) (hb : Beh H' (n + 1) r g' b') (hq : ∀ q, q < 2 ∨ q = r → H'[q]? = H[q]?) (hr : r < H'.length) (hl : 2 ≤ H'.length) :
    OS n (H'.set 1 (.row false 1 0 (cellsM n fun k => genM (g' k) (natsR (b' k))))) g' b' r m c h lf := by
  refine ⟨by rw [List.getElem?_set_ne (by omega), hq 0 (.inl (by omega))]; exact o.h0, setSelf (by omega) _, hb.set 1 _ (.inl (by omega)), ?_, o.hp, o.inj⟩
  rcases o.rdy with h1 | ⟨h1, ver, h2, h3⟩
  · exact .inl h1
  · exact .inr ⟨h1, ver, h2, by rw [List.getElem?_set_ne (by omega), hq r (.inr rfl)]; exact h3⟩
theorem OS.out {n : Nat} {H H' : Hp} {g g' : Nat → Nat} {b b' : Nat → List Nat} {r : Nat} {m : M} {c : Nat} {h : Nat → Nat} {lf : Nat → D} (o : OS n H g b r m c h lf) (hb : Beh H' (n + 1) r g' b') (hq : ∀ q, q < 2 ∨ q = r → H'[q]? = H[q]?)
    (hg : ∀ k, k < n → g' k = g k) (hbb : ∀ k, k < n → b' k = b k) : OS n H' g' b' r m c h lf := by
  refine ⟨by rw [hq 0 (.inl (by omega))]; exact o.h0, by rw [hq 1 (.inl (by omega)), o.h1, cellsM_congr (f := fun k => genM (g k) (natsR (b k))) (g := fun k => genM (g' k) (natsR (b' k))) fun k hk => by simp only [hg k hk, hbb k hk]], hb, ?_, o.hp, o.inj⟩
  rcases o.rdy with h1 | ⟨h1, ver, h2, h3⟩
  · exact .inl h1
  · exact .inr ⟨h1, ver, h2, by rw [hq r (.inr rfl)]; exact h3⟩
theorem push_os {n : Nat} {H : Hp} {g : Nat → Nat} {b : Nat → List Nat} {r : Nat} {m : M} {c : Nat} {h : Nat → Nat} {lf : Nat → D} (o : OS n H g b r m c h lf) (hc : c ≤ 100) (x : Nat) (hx : ¬ Img c h x) :
    CT Try.prog 38 [m, .d (.int .i64 ((x : Nat) : Int))] H (fun m' K => ∃ r' h', OS n K g b r' m' (c + 1) h' lf ∧ ∀ y, Img (c + 1) h' y ↔ y = x ∨ Img c h y) := by
  have hl := o.len
  rcases o.rdy with ⟨rfl, rfl, rfl⟩ | ⟨h1, ver, rfl, h3⟩
  · refine (push_nil x H).mono ?_
    rintro _ _ ⟨rfl, rfl⟩
    refine ⟨H.length, fun _ => x, ⟨by rw [List.getElem?_append_left (by omega)]; exact o.h0, by rw [List.getElem?_append_left (by omega)]; exact o.h1, o.beh.push _, .inr ⟨by omega, 0, rfl, by simp⟩, fun k _ _ => Nat.le_refl _, fun a b ha hb _ => by omega⟩, fun y => ?_⟩
    constructor
    · rintro ⟨_, _, rfl⟩; exact .inl rfl
    · rintro (rfl | ⟨k, hk, _⟩)
      · exact ⟨0, by omega, rfl⟩
      · omega
  · refine (push_ok c h x r ver H hc h3 o.hp o.inj hx).mono ?_
    rintro _ _ ⟨ver', h', rfl, rfl, h4, h5, h6⟩
    exact ⟨r, h', ⟨by rw [List.getElem?_set_ne (by omega)]; exact o.h0, by rw [List.getElem?_set_ne (by omega)]; exact o.h1, o.beh.set r _ (.inr rfl), .inr ⟨h1, ver', rfl, by simp [hl.2]⟩, h4, h5⟩, h6⟩
theorem pop_os {n : Nat} {H : Hp} {g : Nat → Nat} {b : Nat → List Nat} {r : Nat} {m : M} {c : Nat} {h : Nat → Nat} {lf : Nat → D} (o : OS n H g b r m (c + 1) h lf) (hc : c ≤ 100) :
    CT Try.prog 39 [m] H (fun t K => ∃ m' h', t = .tup [.d (.int .i64 ((h 0 : Nat) : Int)), m'] ∧ OS n K g b r m' c h' lf ∧ ∀ y, Img c h' y ↔ Img (c + 1) h y ∧ y ≠ h 0) := by
  have hl := o.len
  rcases o.rdy with ⟨_, _, h1⟩ | ⟨h1, ver, rfl, h3⟩
  · omega
  · refine (pop_ok c h r ver H hc h3 o.hp o.inj).mono ?_
    rintro _ _ ⟨ver', h', rfl, rfl, h4, h5, h6⟩
    exact ⟨_, h', rfl, ⟨by rw [List.getElem?_set_ne (by omega)]; exact o.h0, by rw [List.getElem?_set_ne (by omega)]; exact o.h1, o.beh.set r _ (.inr rfl), .inr ⟨h1, ver', rfl, by simp [hl.2]⟩, h4, h5⟩, h6⟩
end Go.Proofs
