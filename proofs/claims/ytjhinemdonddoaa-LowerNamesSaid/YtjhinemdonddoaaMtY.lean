import Derived.Test.YtjhinemdonddoaaMtU
set_option linter.unusedVariables false
namespace Go.Mt

section views
variable {X : Ctx} {sl : List (Nat × V)} {bx : List (Nat × List M)} {H : Hp}

/-- a row that is only appended to, read as data -/
theorem Inv.view {a : Act} {w : World} {t i ver len ec : Nat} {cs : List M} {rows : List (List D)} (h : Inv X ⟨sl, bx, H⟩ a w) (hs : get sl t = some (.m (.rsl i ver len))) (hH : H[i]? = some (.row true ec ver cs)) (hc : chunk ec len cs = some rows)
    (h0 : 0 < len) : Inv X ⟨(t, .m (.d (.sl rows))) :: sl, bx, H⟩ a w := by
  obtain ⟨σ, lam, rfl, hi⟩ := h
  refine ⟨σ, lam, rfl, hi.hH, hi.defers, hi.size, ?_, hi.box, hi.binj, hi.bsep, hi.bnew, hi.hinv, hi.mono, hi.blk⟩
  intro u v hv
  rcases get_cons_eq hv with ⟨rfl, rfl⟩ | ⟨_, h2⟩
  · obtain ⟨z, h1, h2⟩ := hi.slot u _ hs
    refine ⟨z, h1, .m (.d ?_)⟩
    cases h2 with
    | m h2 => cases h2 with
      | rsl i ver len ad cap hle hcur =>
        have hH' : σ.H[i]? = some (.row true ec ver cs) := by rw [hi.hH]; exact hH
        obtain ⟨e1, e2, arr, T, e3, e4⟩ := hcur true ec cs hH'
        subst e1
        obtain ⟨hec, arr1, T1, cap1, n1, h3, h4, h5, ⟨h6, hmax⟩, h7⟩ := hi.hinv.obj i _ hH'
        rw [e3] at h3; injection h3 with h3; injection h3 with e5 e6; subst e5; subst e6
        have hcap : cap1 = cap := Nat.eq_of_mul_eq_mul_right hec (by rw [← h4, ← e4])
        subst hcap
        have hnl : n1 = len := Nat.eq_of_mul_eq_mul_right hec (by rw [← h6, ← e2])
        subst hnl
        obtain ⟨k1, k2, k3⟩ := chunk_spec hc e2
        have hne : rows ≠ [] := by rintro rfl; simp at k1; omega
        have hnotown : ∀ o, o < cs.length → ¬ σ.O (σ.l i) o := by
          intro o ho hO
          rcases (hi.hinv.own _ _).1 hO with h8 | ⟨k, ob, h8, h9, h10⟩
          · exact hi.hinv.sep i _ hH' trivial o h8
          · have := hi.hinv.inj k i ob _ h8 hH' (Ob.live_of_owns h10) trivial h9
            subst this
            rw [hH'] at h8; injection h8 with h8; subst h8
            simp only [Ob.owns] at h10
            rcases h10 with h10 | h10
            · cases h10
            · omega
        have hbound : ∀ i j, i < rows.length → j < ec → i * ec + j < cs.length := by
          intro i j hi hj
          rw [e2, ← k1]
          calc i * ec + j < i * ec + ec := by omega
            _ = (i + 1) * ec := by rw [Nat.succ_mul]
            _ ≤ rows.length * ec := Nat.mul_le_mul_right _ hi
        have hsz : cs.length ≤ arr.size := by rw [e2, e4]; exact Nat.mul_le_mul_right _ h5
        have hcellsD : ∀ i j, i < rows.length → j < ec → ∃ r d, rows[i]? = some r ∧ r[j]? = some d ∧ cs[i * ec + j]? = some (.d d) := by
          intro i j hi hj
          have hr : rows[i].length = ec := k2 _ (List.getElem_mem hi)
          have g1 : rows[i]? = some rows[i] := by simp [hi]
          have g2 : rows[i][j]? = some ((rows[i])[j]'(by rw [hr]; exact hj)) := by simp [hr, hj]
          exact ⟨rows[i], _, g1, g2, k3 i j _ _ g1 g2⟩
        have := Rep.sl (O := σ.O) (w := σ.w) rows (σ.l i) 0 cap1 ec (fun i j => arr.getD (i * ec + j) undef) hne (by omega) (by omega) k2 ?_ ?_ ?_
        · rw [k1] at this; exact this
        · intro i' j hi' hj
          rw [Nat.zero_add]
          refine ⟨?_, hnotown _ (hbound i' j hi' hj)⟩
          have := hbound i' j hi' hj
          simp [cellv, World.cell?, e3, show i' * ec + j < arr.size by omega]
        · intro i' j hi' hj
          obtain ⟨r, d, _, _, hcd⟩ := hcellsD i' j hi' hj
          have hlt := hbound i' j hi' hj
          exact (h7 _ _ (arr.getD (i' * ec + j) undef) hcd (by simp [show i' * ec + j < arr.size by omega])).2
        · intro i' j r d hr hd
          have hcd := k3 i' j r d hr hd
          have hlt : i' * ec + j < cs.length := by rcases Nat.lt_or_ge (i' * ec + j) cs.length with h | h; exact h; simp [List.getElem?_eq_none h] at hcd
          have := (h7 _ _ (arr.getD (i' * ec + j) undef) hcd (by simp [show i' * ec + j < arr.size by omega])).1
          cases this with
          | d h => exact h
  · exact hi.slot u v h2

theorem TL.view {ops : Array Oper} {l : List Oper} {post : St → Prop} (t : Nat) {i ver len ec : Nat} {cs : List M} {rows : List (List D)} (hs : get sl t = some (.m (.rsl i ver len))) (hH : H[i]? = some (.row true ec ver cs)) (hc : chunk ec len cs = some rows)
    (h0 : 0 < len) (k : TL X ops l ⟨(t, .m (.d (.sl rows))) :: sl, bx, H⟩ post) : TL X ops l ⟨sl, bx, H⟩ post :=
  fun a w hi => k a w (hi.view hs hH hc h0)
theorem TC.view {c : Code} {post : Exit → St → Prop} (t : Nat) {i ver len ec : Nat} {cs : List M} {rows : List (List D)} (hs : get sl t = some (.m (.rsl i ver len))) (hH : H[i]? = some (.row true ec ver cs)) (hc : chunk ec len cs = some rows)
    (h0 : 0 < len) (k : TC X c ⟨(t, .m (.d (.sl rows))) :: sl, bx, H⟩ post) : TC X c ⟨sl, bx, H⟩ post :=
  fun a w hi => k a w (hi.view hs hH hc h0)
end views

theorem ba_beq (a b : ByteArray) : (a == b) = decide (a = b) := by
  cases a with
  | mk a =>
  cases b with
  | mk b =>
  have : ((ByteArray.mk a) == (ByteArray.mk b)) = (a == b) := rfl
  rw [this]
  by_cases h : a = b
  · subst h; simp
  · simp [h]

def lookM (k : ByteArray) : List (D × M) → Option M
  | [] => none
  | (.str s, m) :: r => bif decide (s = k) then some m else lookM k r
  | _ :: r => lookM k r
def updM (k : ByteArray) (v : M) : List (D × M) → List (D × M)
  | [] => [(.str k, v)]
  | (.str s, m) :: r => bif decide (s = k) then (.str k, v) :: r else (.str s, m) :: updM k v r
  | x :: r => x :: updM k v r
def strKeys : List (D × M) → Bool
  | [] => true
  | (.str _, _) :: r => strKeys r
  | _ => false

class TyMapS (P : Program) (t : Nat) (e : outParam Nat) : Prop where
  u : ∃ k, P.underlying t = some (.map k e) ∧ P.underlying k = some .string

theorem findNow_spec {σ : Sg} {k : ByteArray} : ∀ {es : List (D × M)} {us : List MapEntry} {n : Nat}, strKeys es = true → us.length = es.length → (∀ (i : Nat) e u, es[i]? = some e → us[i]? = some u → EntOk σ e u) →
    (lookM k es = none ∧ Instr.findNow .string (.string k) us n = some none ∧ updM k = updM k ∧ (∀ v, updM k v es = es ++ [(.str k, v)])) ∨
    ∃ i m u, lookM k es = some m ∧ us[i]? = some u ∧ es[i]? = some (.str k, m) ∧ Instr.findNow .string (.string k) us n = some (some (n + i, u.val)) ∧ u.key = .string k ∧ RM σ m u.val ∧ (∀ v, updM k v es = es.set i (.str k, v))
  | [], us, n, _, hl, _ => by
    have : us = [] := by simpa using hl
    subst this
    exact .inl ⟨rfl, rfl, rfl, fun v => rfl⟩
  | (dk, m) :: r, us, n, hk, hl, h => by
    cases dk with
    | str s =>
      cases us with
      | nil => simp at hl
      | cons u us =>
        obtain ⟨h1, h2⟩ := h 0 _ _ rfl rfl
        simp only [keyVal, Option.some.injEq] at h1
        by_cases e : s = k
        · subst e
          refine .inr ⟨0, m, u, by simp [lookM], rfl, rfl, ?_, h1.symm, h2, fun v => by simp [updM]⟩
          simp [Instr.findNow, ← h1, Instr.sameNow, ba_beq]
        · have hne : (k == s) = false := by rw [ba_beq]; simp; exact fun h => e h.symm
          have hf : Instr.findNow .string (.string k) (u :: us) n = Instr.findNow .string (.string k) us (n + 1) := by
            simp [Instr.findNow, ← h1, Instr.sameNow, hne]
          have hlk : lookM k ((.str s, m) :: r) = lookM k r := by simp [lookM, e]
          have hup : ∀ v, updM k v ((.str s, m) :: r) = (.str s, m) :: updM k v r := fun v => by simp [updM, e]
          rcases findNow_spec (σ := σ) (k := k) (n := n + 1) (es := r) (us := us) hk (by simpa using hl) (fun i e u a b => h (i + 1) e u (by simpa using a) (by simpa using b)) with ⟨h3, h4, _, h5⟩ | ⟨i, m', u', h3, h4, h5, h6, h7, h8, h9⟩
          · exact .inl ⟨by rw [hlk]; exact h3, by rw [hf]; exact h4, rfl, fun v => by rw [hup, h5]; rfl⟩
          · exact .inr ⟨i + 1, m', u', by rw [hlk]; exact h3, by simpa using h4, by simpa using h5, by rw [hf, h6]; congr 3; omega, h7, h8, fun v => by rw [hup, h9]; rfl⟩
    | _ => simp [strKeys] at hk

section ops
variable {X : Ctx} {st : St} {dst : Option Nat} {ty : Nat} {pos : String} {af : Array Edge} {g : Option (Nat × Bool)}

theorem checkKey_str {P : Program} {b : Bool} {n kt : Nat} {s : ByteArray} {w : World} (h : P.underlying kt = some .string) : (Instr.checkKey b (n + 1) kt (.string s)).run P w = .ok () w := by
  simp [Instr.checkKey, underlying, program, Sem.run, h]

theorem op_lookup2 {T e : Nat} {x y : Operand} {i : Nat} {k : ByteArray} {es : List (D × M)} {z : D} [ht : TyMapS X.P T e] [hz : TyZ X.P e z] (hx : st.ev x = some (.m (.mp i))) (hy : st.ev y = some (.m (.d (.str k)))) (hH : st.H[i]? = some (.map es)) (hk : strKeys es = true) :
    OpT X ⟨dst, .lookup T x y true, ty, pos, af, g⟩ st (eqp (.m (match lookM k es with | some m => .tup [m, .d (.bool true)] | none => .tup [.d z, .d (.bool false)])) st) := by
  refine OpT.quiet fun a σ lam hi => ?_
  have h := hi.ev hx
  have h2 := hi.evstr hy
  obtain ⟨kt, u1, u2⟩ := ht.u
  obtain ⟨zv, hz1, hz2⟩ := (tyZero_of hz.zero).run
  generalize hu : a.eval x = u at h
  cases h with
  | m h => cases h with
    | mp i es0 hh =>
      obtain ⟨ents, clock, h3, h4, h5⟩ := hi.hinv.obj i (.map es) (by rw [hi.hH]; exact hH)
      have hck : ∀ b, (Instr.checkKey b 10000 kt (.string k)).run X.P σ.w = .ok () σ.w := fun b => checkKey_str (n := 9999) u2
      rcases findNow_spec (σ := σ) (k := k) (n := 0) (es := es) (us := ents.toList) hk (by simpa using h4) (fun i e u a b => h5 i e u a (by simpa using b)) with ⟨h6, h7, _, _⟩ | ⟨n, m, u, h6, h7, h8, h9, h10, h11, _⟩
      · rw [h6]
        refine ⟨.tuple #[zv, .bool false], ?_, .m (.tup _ _ rfl ?_)⟩
        · simp only [execOp, hu, h2, Instr.lookup]
          simp [underlying, program, Sem.run, u1, getObj, h3, hck, Instr.findKey, u2, h7, hz1]
        · intro n m v hm hv
          match n with
          | 0 => simp at hm hv; subst hm; subst hv; exact .d (dOfVal_rep hz2)
          | 1 => simp at hm hv; subst hm; subst hv; exact .d (.bool _)
          | n + 2 => simp at hm
      · rw [h6]
        refine ⟨.tuple #[u.val, .bool true], ?_, .m (.tup _ _ rfl ?_)⟩
        · simp only [execOp, hu, h2, Instr.lookup]
          simp [underlying, program, Sem.run, u1, getObj, h3, hck, Instr.findKey, u2, h9]
        · intro n m' v hm hv
          match n with
          | 0 => simp at hm hv; subst hm; subst hv; exact h11
          | 1 => simp at hm hv; subst hm; subst hv; exact .d (.bool _)
          | n + 2 => simp at hm

theorem op_lookup1 {T e : Nat} {x y : Operand} {i : Nat} {k : ByteArray} {es : List (D × M)} {z : D} [ht : TyMapS X.P T e] [hz : TyZ X.P e z] (hx : st.ev x = some (.m (.mp i))) (hy : st.ev y = some (.m (.d (.str k)))) (hH : st.H[i]? = some (.map es)) (hk : strKeys es = true) :
    OpT X ⟨dst, .lookup T x y false, ty, pos, af, g⟩ st (eqp (.m (match lookM k es with | some m => m | none => .d z)) st) := by
  refine OpT.quiet fun a σ lam hi => ?_
  have h := hi.ev hx
  have h2 := hi.evstr hy
  obtain ⟨kt, u1, u2⟩ := ht.u
  obtain ⟨zv, hz1, hz2⟩ := (tyZero_of hz.zero).run
  generalize hu : a.eval x = u at h
  cases h with
  | m h => cases h with
    | mp i es0 hh =>
      obtain ⟨ents, clock, h3, h4, h5⟩ := hi.hinv.obj i (.map es) (by rw [hi.hH]; exact hH)
      have hck : ∀ b, (Instr.checkKey b 10000 kt (.string k)).run X.P σ.w = .ok () σ.w := fun b => checkKey_str (n := 9999) u2
      rcases findNow_spec (σ := σ) (k := k) (n := 0) (es := es) (us := ents.toList) hk (by simpa using h4) (fun i e u a b => h5 i e u a (by simpa using b)) with ⟨h6, h7, _, _⟩ | ⟨n, m, u, h6, h7, h8, h9, h10, h11, _⟩
      · rw [h6]
        refine ⟨zv, ?_, .m (.d (dOfVal_rep hz2))⟩
        simp only [execOp, hu, h2, Instr.lookup]
        simp [underlying, program, Sem.run, u1, getObj, h3, hck, Instr.findKey, u2, h7, hz1]
      · rw [h6]
        refine ⟨u.val, ?_, .m h11⟩
        simp only [execOp, hu, h2, Instr.lookup]
        simp [underlying, program, Sem.run, u1, getObj, h3, hck, Instr.findKey, u2, h9]

theorem op_mapUpdate {T e : Nat} {x y z : Operand} {i : Nat} {k : ByteArray} {es : List (D × M)} {m : M} [ht : TyMapS X.P T e] (hx : st.ev x = some (.m (.mp i))) (hy : st.ev y = some (.m (.d (.str k)))) (hz : st.ev z = some (.m m)) (hH : st.H[i]? = some (.map es)) (hk : strKeys es = true) :
    OpT X ⟨dst, .mapUpdate T x y z, ty, pos, af, g⟩ st (eqp (.m .undef) ⟨st.sl, st.bx, st.H.set i (.map (updM k m es))⟩) := by
  intro a σ lam hi
  have h := hi.ev hx
  have h2 := hi.evstr hy
  have hm := hi.ev hz
  obtain ⟨kt, u1, u2⟩ := ht.u
  generalize hu : a.eval x = u at h
  cases hm with
  | m hm =>
  cases h with
  | m h => cases h with
    | mp i es0 hh =>
      have hH' : σ.H[i]? = some (.map es) := by rw [hi.hH]; exact hH
      obtain ⟨ents, clock, h3, h4, h5⟩ := hi.hinv.obj i (.map es) hH'
      have hlt := lt_of_heap h3
      have hck : ∀ b, (Instr.checkKey b 10000 kt (.string k)).run X.P σ.w = .ok () σ.w := fun b => checkKey_str (n := 9999) u2
      have upd : ∀ (ents' : Array MapEntry) (clock' : Nat), ents'.size = (updM k m es).length → (∀ (n : Nat) e u, (updM k m es)[n]? = some e → ents'[n]? = some u → EntOk σ e u) →
          ∃ τ : Sg, τ.w = setBlk σ.w (σ.l i) (.map ents' clock') ∧ FInv X τ lam ⟨st.sl, st.bx, st.H.set i (.map (updM k m es))⟩ a := by
        intro ents' clock' g1 g2
        obtain ⟨τ, k1, k2, k3, k4, k5⟩ := hi.updObj (j := i) (b' := σ.l i) (ob := .map es) (ob' := .map (updM k m es)) (w' := setBlk σ.w (σ.l i) (.map ents' clock')) hH trivial rfl rfl rfl (by rw [setBlk_size]; exact Nat.le_refl _)
          (fun c _ hc => setBlk_ne hc) (.inl rfl) (fun o v ho => (ho trivial).elim) rfl (by
            intro τ hmo hw _ _
            exact ⟨ents', clock', by rw [hw]; exact setBlk_get hlt, g1, fun n e u a b => ⟨(g2 n e u a b).1, (g2 n e u a b).2.mono hmo⟩⟩)
        exact ⟨τ, k1, k5⟩
      rcases findNow_spec (σ := σ) (k := k) (n := 0) (es := es) (us := ents.toList) hk (by simpa using h4) (fun i e u a b => h5 i e u a (by simpa using b)) with ⟨h6, h7, _, h8⟩ | ⟨n, m', u, h6, h7, h8, h9, h10, h11, h12⟩
      · obtain ⟨τ, k1, k2⟩ := upd (ents.push { key := .string k, val := a.eval z, born := clock }) (clock + 1) (by rw [h8]; simp [h4]) (by
          intro n e u he hu
          rw [h8] at he
          rcases Nat.lt_or_ge n es.length with hn | hn
          · rw [List.getElem?_append_left hn] at he
            rw [Array.getElem?_push, if_neg (by omega)] at hu
            exact h5 n e u he hu
          · rw [List.getElem?_append_right hn] at he
            have hz0 : n - es.length = 0 := by
              rcases Nat.eq_zero_or_pos (n - es.length) with h | h
              · exact h
              · rw [List.getElem?_eq_none (by simp; omega)] at he; cases he
            rw [hz0] at he
            simp at he; subst he
            rw [Array.getElem?_push, if_pos (by omega)] at hu
            injection hu with hu; subst hu
            exact ⟨rfl, hm⟩)
        refine OpRun.skip ?_ ⟨.m .undef, _, τ, lam, ⟨rfl, rfl⟩, k1, k2, .m (.undef _)⟩
        simp only [execOp, hu, h2, Instr.mapUpdate]
        simp [underlying, program, Sem.run, u1, getObj, h3, hck, Instr.findKey, u2, h7, setObj, setBlk]
      · have hnl : n < ents.size := by
          have := h7; simp at this
          rcases Nat.lt_or_ge n ents.size with h | h
          · exact h
          · simp [Array.getElem?_eq_none h] at this
        obtain ⟨τ, k1, k2⟩ := upd (ents.modify n fun e => { e with key := .string k, val := a.eval z }) clock (by rw [h12]; simp [h4]) (by
          intro n' e u' he hu
          rw [h12] at he
          rw [Array.getElem?_modify] at hu
          by_cases en : n = n'
          · subst en
            rw [set_get h8] at he; injection he with he; subst he
            simp [hnl] at hu
            subst hu
            exact ⟨rfl, hm⟩
          · rw [List.getElem?_set_ne en] at he
            rw [if_neg en] at hu
            exact h5 n' e u' he hu)
        refine OpRun.skip ?_ ⟨.m .undef, _, τ, lam, ⟨rfl, rfl⟩, k1, k2, .m (.undef _)⟩
        have hkk : ents[n]?.map (·.key) = some (.string k) := by
          have : ents[n]? = some u := by simpa using h7
          rw [this]; simp [h10]
        have hst : (Instr.keyThatStays (.string k) (.string k)).run X.P σ.w = .ok (.string k) σ.w := by simp [Instr.keyThatStays, Instr.sameBits, ba_beq]
        simp only [execOp, hu, h2, Instr.mapUpdate]
        simp [underlying, program, Sem.run, u1, getObj, h3, hck, Instr.findKey, u2, h9, setObj, setBlk, hkk, hst]

theorem op_max {t1 t2 : Nat} {x y : Operand} {k : IntKind} {m n : Int} (hx : st.ev x = some (.m (.d (.int k m)))) (hy : st.ev y = some (.m (.d (.int k n)))) :
    OpT X ⟨dst, .call ⟨.builtin .max, #[x, y], #[t1, t2]⟩, ty, pos, af, g⟩ st (eqp (.m (.d (.int k (if n > m then n else m)))) st) := by
  refine OpT.quiet fun a σ lam hi => ?_
  exact ⟨.int k (if n > m then n else m), by simp [execOp, resolve, invoke, builtin, Builtin.max_, Builtin.max2, hi.evint hx, hi.evint hy], .m (.d (.int _ _))⟩
theorem op_min {t1 t2 : Nat} {x y : Operand} {k : IntKind} {m n : Int} (hx : st.ev x = some (.m (.d (.int k m)))) (hy : st.ev y = some (.m (.d (.int k n)))) :
    OpT X ⟨dst, .call ⟨.builtin .min, #[x, y], #[t1, t2]⟩, ty, pos, af, g⟩ st (eqp (.m (.d (.int k (if n < m then n else m)))) st) := by
  refine OpT.quiet fun a σ lam hi => ?_
  exact ⟨.int k (if n < m then n else m), by simp [execOp, resolve, invoke, builtin, Builtin.min_, Builtin.min2, hi.evint hx, hi.evint hy], .m (.d (.int _ _))⟩

class TyInt (P : Program) (t : Nat) (k : outParam IntKind) : Prop where
  u : P.underlying t = some (.int k)
theorem op_convI {s t : Nat} {x : Operand} {k k' k0 : IntKind} {n : Int} [hs : TyInt X.P s k0] [ht : TyInt X.P t k'] (hx : st.ev x = some (.m (.d (.int k n)))) :
    OpT X ⟨dst, .convert s t x, ty, pos, af, g⟩ st (eqp (.m (.d (.int k' (k'.wrap n)))) st) := by
  refine OpT.quiet fun a σ lam hi => ?_
  exact ⟨.int k' (k'.wrap n), by simp [execOp, convert, underlying, program, Sem.run, hs.u, ht.u, hi.evint hx, Conv.intToInt], .m (.d (.int _ _))⟩

end ops
end Go.Mt
