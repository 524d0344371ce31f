/- Part of a library of triples over an abstract heap, and of a reckoner that is proved sound over it. -/
import Derived.Test.YtfgmlnfpecipnaaGreatDoorLibC
set_option linter.unusedVariables false
namespace Go.Mt

section views
variable {X : Ctx} {sl : List (Nat × V)} {bx : List (Nat × List M)} {H : Hp}

/-- a row that is only appended to, read as data -/
theorem Inv.view {a : Act} {w : World} {t i ver len ec : Nat} {cs : List M} {rows : List (List D)} (h : Inv X ⟨sl, bx, H⟩ a w) (hs : get sl t = some (.m (.rsl i ver len))) (hH : H[i]? = some (.row true ec ver cs)) (hc : chunk ec len cs = some rows)
    (h0 : 0 < len) : Inv X ⟨(t, .m (.d (.sl rows))) :: sl, bx, H⟩ a w := by
  obtain ⟨σ, lam, rfl, hi⟩ := h
  refine ⟨σ, lam, rfl, hi.hH, hi.defers, hi.size, ?_, hi.box, hi.binj, hi.bsep, hi.bnew, hi.hinv, hi.mono, hi.blk⟩
  intro u v hv
  rcases get_cons_eq hv with ⟨rfl, rfl⟩ | ⟨_, h2⟩
  · obtain ⟨z, h1, h2⟩ := hi.slot u _ hs
    refine ⟨z, h1, .m (.d ?_)⟩
    cases h2 with
    | m h2 => cases h2 with
      | rsl i ver len ad cap hle hcur =>
        have hH' : σ.H[i]? = some (.row true ec ver cs) := by rw [hi.hH]; exact hH
        obtain ⟨e1, e2, arr, T, e3, e4⟩ := hcur true ec cs hH'
        subst e1
        obtain ⟨hec, arr1, T1, cap1, n1, h3, h4, h5, ⟨h6, hmax⟩, h7⟩ := hi.hinv.obj i _ hH'
        rw [e3] at h3; injection h3 with h3; injection h3 with e5 e6; subst e5; subst e6
        have hcap : cap1 = cap := Nat.eq_of_mul_eq_mul_right hec (by rw [← h4, ← e4])
        subst hcap
        have hnl : n1 = len := Nat.eq_of_mul_eq_mul_right hec (by rw [← h6, ← e2])
        subst hnl
        obtain ⟨k1, k2, k3⟩ := chunk_spec hc e2
        have hne : rows ≠ [] := by rintro rfl; simp at k1; omega
        have hnotown : ∀ o, o < cs.length → ¬ σ.O (σ.l i) o := by
          intro o ho hO
          rcases (hi.hinv.own _ _).1 hO with h8 | ⟨k, ob, h8, h9, h10⟩
          · exact hi.hinv.sep i _ hH' trivial o h8
          · have := hi.hinv.inj k i ob _ h8 hH' (Ob.live_of_owns h10) trivial h9
            subst this
            rw [hH'] at h8; injection h8 with h8; subst h8
            simp only [Ob.owns] at h10
            rcases h10 with h10 | h10
            · cases h10
            · omega
        have hbound : ∀ i j, i < rows.length → j < ec → i * ec + j < cs.length := by
          intro i j hi hj
          rw [e2, ← k1]
          calc i * ec + j < i * ec + ec := by omega
            _ = (i + 1) * ec := by rw [Nat.succ_mul]
            _ ≤ rows.length * ec := Nat.mul_le_mul_right _ hi
        have hsz : cs.length ≤ arr.size := by rw [e2, e4]; exact Nat.mul_le_mul_right _ h5
        have hcellsD : ∀ i j, i < rows.length → j < ec → ∃ r d, rows[i]? = some r ∧ r[j]? = some d ∧ cs[i * ec + j]? = some (.d d) := by
          intro i j hi hj
          have hr : rows[i].length = ec := k2 _ (List.getElem_mem hi)
          have g1 : rows[i]? = some rows[i] := by simp [hi]
          have g2 : rows[i][j]? = some ((rows[i])[j]'(by rw [hr]; exact hj)) := by simp [hr, hj]
          exact ⟨rows[i], _, g1, g2, k3 i j _ _ g1 g2⟩
        have := Rep.sl (O := σ.O) (w := σ.w) rows (σ.l i) 0 cap1 ec (fun i j => arr.getD (i * ec + j) undef) hne (by omega) (by omega) k2 ?_ ?_ ?_
        · rw [k1] at this; exact this
        · intro i' j hi' hj
          rw [Nat.zero_add]
          refine ⟨?_, hnotown _ (hbound i' j hi' hj)⟩
          have := hbound i' j hi' hj
          simp [cellv, World.cell?, e3, show i' * ec + j < arr.size by omega]
        · intro i' j hi' hj
          obtain ⟨r, d, _, _, hcd⟩ := hcellsD i' j hi' hj
          have hlt := hbound i' j hi' hj
          exact (h7 _ _ (arr.getD (i' * ec + j) undef) hcd (by simp [show i' * ec + j < arr.size by omega])).2
        · intro i' j r d hr hd
          have hcd := k3 i' j r d hr hd
          have hlt : i' * ec + j < cs.length := by rcases Nat.lt_or_ge (i' * ec + j) cs.length with h | h; exact h; simp [List.getElem?_eq_none h] at hcd
          have := (h7 _ _ (arr.getD (i' * ec + j) undef) hcd (by simp [show i' * ec + j < arr.size by omega])).1
          cases this with
          | d h => exact h
  · exact hi.slot u v h2

theorem TL.view {ops : Array Oper} {l : List Oper} {post : St → Prop} (t : Nat) {i ver len ec : Nat} {cs : List M} {rows : List (List D)} (hs : get sl t = some (.m (.rsl i ver len))) (hH : H[i]? = some (.row true ec ver cs)) (hc : chunk ec len cs = some rows)
    (h0 : 0 < len) (k : TL X ops l ⟨(t, .m (.d (.sl rows))) :: sl, bx, H⟩ post) : TL X ops l ⟨sl, bx, H⟩ post :=
  fun a w hi => k a w (hi.view hs hH hc h0)
theorem TC.view {c : Code} {post : Exit → St → Prop} (t : Nat) {i ver len ec : Nat} {cs : List M} {rows : List (List D)} (hs : get sl t = some (.m (.rsl i ver len))) (hH : H[i]? = some (.row true ec ver cs)) (hc : chunk ec len cs = some rows)
    (h0 : 0 < len) (k : TC X c ⟨(t, .m (.d (.sl rows))) :: sl, bx, H⟩ post) : TC X c ⟨sl, bx, H⟩ post :=
  fun a w hi => k a w (hi.view hs hH hc h0)
end views

theorem ba_beq (a b : ByteArray) : (a == b) = decide (a = b) := by
  cases a with
  | mk a =>
  cases b with
  | mk b =>
  have : ((ByteArray.mk a) == (ByteArray.mk b)) = (a == b) := rfl
  rw [this]
  by_cases h : a = b
  · subst h; simp
  · simp [h]

def lookM (k : ByteArray) : List (D × M) → Option M
  | [] => none
  | (.str s, m) :: r => bif decide (s = k) then some m else lookM k r
  | _ :: r => lookM k r
def updM (k : ByteArray) (v : M) : List (D × M) → List (D × M)
  | [] => [(.str k, v)]
  | (.str s, m) :: r => bif decide (s = k) then (.str k, v) :: r else (.str s, m) :: updM k v r
  | x :: r => x :: updM k v r
def strKeys : List (D × M) → Bool
  | [] => true
  | (.str _, _) :: r => strKeys r
  | _ => false

class TyMapS (P : Program) (t : Nat) (e : outParam Nat) : Prop where
  u : ∃ k, P.underlying t = some (.map k e) ∧ P.underlying k = some .string

theorem findNow_spec {σ : Sg} {k : ByteArray} : ∀ {es : List (D × M)} {us : List MapEntry} {n : Nat}, strKeys es = true → us.length = es.length → (∀ (i : Nat) e u, es[i]? = some e → us[i]? = some u → EntOk σ e u) →
    (lookM k es = none ∧ Instr.findNow .string (.string k) us n = some none ∧ updM k = updM k ∧ (∀ v, updM k v es = es ++ [(.str k, v)])) ∨
    ∃ i m u, lookM k es = some m ∧ us[i]? = some u ∧ es[i]? = some (.str k, m) ∧ Instr.findNow .string (.string k) us n = some (some (n + i, u.val)) ∧ u.key = .string k ∧ RM σ m u.val ∧ (∀ v, updM k v es = es.set i (.str k, v))
  | [], us, n, _, hl, _ => by
    have : us = [] := by simpa using hl
    subst this
    exact .inl ⟨rfl, rfl, rfl, fun v => rfl⟩
  | (dk, m) :: r, us, n, hk, hl, h => by
    cases dk with
    | str s =>
      cases us with
      | nil => simp at hl
      | cons u us =>
        obtain ⟨h1, h2⟩ : keyVal (.str s) = some u.key ∧ RM σ m u.val := by
          rcases h 0 _ _ rfl rfl with h0 | ⟨h0, _⟩ | ⟨h0, _⟩
          · exact h0
          · cases h0
          · cases h0
        simp only [keyVal, Option.some.injEq] at h1
        by_cases e : s = k
        · subst e
          refine .inr ⟨0, m, u, by simp [lookM], rfl, rfl, ?_, h1.symm, h2, fun v => by simp [updM]⟩
          simp [Instr.findNow, ← h1, Instr.sameNow, ba_beq]
        · have hne : (k == s) = false := by rw [ba_beq]; simp; exact fun h => e h.symm
          have hf : Instr.findNow .string (.string k) (u :: us) n = Instr.findNow .string (.string k) us (n + 1) := by
            simp [Instr.findNow, ← h1, Instr.sameNow, hne]
          have hlk : lookM k ((.str s, m) :: r) = lookM k r := by simp [lookM, e]
          have hup : ∀ v, updM k v ((.str s, m) :: r) = (.str s, m) :: updM k v r := fun v => by simp [updM, e]
          rcases findNow_spec (σ := σ) (k := k) (n := n + 1) (es := r) (us := us) hk (by simpa using hl) (fun i e u a b => h (i + 1) e u (by simpa using a) (by simpa using b)) with ⟨h3, h4, _, h5⟩ | ⟨i, m', u', h3, h4, h5, h6, h7, h8, h9⟩
          · exact .inl ⟨by rw [hlk]; exact h3, by rw [hf]; exact h4, rfl, fun v => by rw [hup, h5]; rfl⟩
          · exact .inr ⟨i + 1, m', u', by rw [hlk]; exact h3, by simpa using h4, by simpa using h5, by rw [hf, h6]; congr 3; omega, h7, h8, fun v => by rw [hup, h9]; rfl⟩
    | _ => simp [strKeys] at hk

section ops
variable {X : Ctx} {st : St} {dst : Option Nat} {ty : Nat} {pos : String} {af : Array Edge} {g : Option (Nat × Bool)}

theorem checkKey_str {P : Program} {b : Bool} {n kt : Nat} {s : ByteArray} {w : World} (h : P.underlying kt = some .string) : (Instr.checkKey b (n + 1) kt (.string s)).run P w = .ok () w := by
  simp [Instr.checkKey, underlying, program, Sem.run, h]

theorem op_lookup2 {T e : Nat} {x y : Operand} {i : Nat} {k : ByteArray} {es : List (D × M)} {z : D} [ht : TyMapS X.P T e] [hz : TyZ X.P e z] (hx : st.ev x = some (.m (.mp i))) (hy : st.ev y = some (.m (.d (.str k)))) (hH : st.H[i]? = some (.map es)) (hk : strKeys es = true) :
    OpT X ⟨dst, .lookup T x y true, ty, pos, af, g⟩ st (eqp (.m (match lookM k es with | some m => .tup [m, .d (.bool true)] | none => .tup [.d z, .d (.bool false)])) st) := by
  refine OpT.quiet fun a σ lam hi => ?_
  have h := hi.ev hx
  have h2 := hi.evstr hy
  obtain ⟨kt, u1, u2⟩ := ht.u
  obtain ⟨zv, hz1, hz2⟩ := (tyZero_of hz.zero).run
  generalize hu : a.eval x = u at h
  cases h with
  | m h => cases h with
    | mp i es0 hh =>
      obtain ⟨ents, clock, h3, h4, h5, hbo⟩ := hi.hinv.obj i (.map es) (by rw [hi.hH]; exact hH)
      have hck : ∀ b, (Instr.checkKey b 10000 kt (.string k)).run X.P σ.w = .ok () σ.w := fun b => checkKey_str (n := 9999) u2
      rcases findNow_spec (σ := σ) (k := k) (n := 0) (es := es) (us := ents.toList) hk (by simpa using h4) (fun i e u a b => h5 i e u a (by simpa using b)) with ⟨h6, h7, _, _⟩ | ⟨n, m, u, h6, h7, h8, h9, h10, h11, _⟩
      · rw [h6]
        refine ⟨.tuple #[zv, .bool false], ?_, .m (.tup _ _ rfl ?_)⟩
        · simp only [execOp, hu, h2, Instr.lookup]
          simp [underlying, program, Sem.run, u1, getObj, h3, hck, Instr.findKey, u2, h7, hz1]
        · intro n m v hm hv
          match n with
          | 0 => simp at hm hv; subst hm; subst hv; exact .d (dOfVal_rep hz2)
          | 1 => simp at hm hv; subst hm; subst hv; exact .d (.bool _)
          | n + 2 => simp at hm
      · rw [h6]
        refine ⟨.tuple #[u.val, .bool true], ?_, .m (.tup _ _ rfl ?_)⟩
        · simp only [execOp, hu, h2, Instr.lookup]
          simp [underlying, program, Sem.run, u1, getObj, h3, hck, Instr.findKey, u2, h9]
        · intro n m' v hm hv
          match n with
          | 0 => simp at hm hv; subst hm; subst hv; exact h11
          | 1 => simp at hm hv; subst hm; subst hv; exact .d (.bool _)
          | n + 2 => simp at hm

theorem op_lookup1 {T e : Nat} {x y : Operand} {i : Nat} {k : ByteArray} {es : List (D × M)} {z : D} [ht : TyMapS X.P T e] [hz : TyZ X.P e z] (hx : st.ev x = some (.m (.mp i))) (hy : st.ev y = some (.m (.d (.str k)))) (hH : st.H[i]? = some (.map es)) (hk : strKeys es = true) :
    OpT X ⟨dst, .lookup T x y false, ty, pos, af, g⟩ st (eqp (.m (match lookM k es with | some m => m | none => .d z)) st) := by
  refine OpT.quiet fun a σ lam hi => ?_
  have h := hi.ev hx
  have h2 := hi.evstr hy
  obtain ⟨kt, u1, u2⟩ := ht.u
  obtain ⟨zv, hz1, hz2⟩ := (tyZero_of hz.zero).run
  generalize hu : a.eval x = u at h
  cases h with
  | m h => cases h with
    | mp i es0 hh =>
      obtain ⟨ents, clock, h3, h4, h5, hbo⟩ := hi.hinv.obj i (.map es) (by rw [hi.hH]; exact hH)
      have hck : ∀ b, (Instr.checkKey b 10000 kt (.string k)).run X.P σ.w = .ok () σ.w := fun b => checkKey_str (n := 9999) u2
      rcases findNow_spec (σ := σ) (k := k) (n := 0) (es := es) (us := ents.toList) hk (by simpa using h4) (fun i e u a b => h5 i e u a (by simpa using b)) with ⟨h6, h7, _, _⟩ | ⟨n, m, u, h6, h7, h8, h9, h10, h11, _⟩
      · rw [h6]
        refine ⟨zv, ?_, .m (.d (dOfVal_rep hz2))⟩
        simp only [execOp, hu, h2, Instr.lookup]
        simp [underlying, program, Sem.run, u1, getObj, h3, hck, Instr.findKey, u2, h7, hz1]
      · rw [h6]
        refine ⟨u.val, ?_, .m h11⟩
        simp only [execOp, hu, h2, Instr.lookup]
        simp [underlying, program, Sem.run, u1, getObj, h3, hck, Instr.findKey, u2, h9]

theorem op_mapUpdate {T e : Nat} {x y z : Operand} {i : Nat} {k : ByteArray} {es : List (D × M)} {m : M} [ht : TyMapS X.P T e] (hx : st.ev x = some (.m (.mp i))) (hy : st.ev y = some (.m (.d (.str k)))) (hz : st.ev z = some (.m m)) (hH : st.H[i]? = some (.map es)) (hk : strKeys es = true) :
    OpT X ⟨dst, .mapUpdate T x y z, ty, pos, af, g⟩ st (eqp (.m .undef) ⟨st.sl, st.bx, st.H.set i (.map (updM k m es))⟩) := by
  intro a σ lam hi
  have h := hi.ev hx
  have h2 := hi.evstr hy
  have hm := hi.ev hz
  obtain ⟨kt, u1, u2⟩ := ht.u
  generalize hu : a.eval x = u at h
  cases hm with
  | m hm =>
  cases h with
  | m h => cases h with
    | mp i es0 hh =>
      have hH' : σ.H[i]? = some (.map es) := by rw [hi.hH]; exact hH
      obtain ⟨ents, clock, h3, h4, h5, hbo⟩ := hi.hinv.obj i (.map es) hH'
      have hlt := lt_of_heap h3
      have hck : ∀ b, (Instr.checkKey b 10000 kt (.string k)).run X.P σ.w = .ok () σ.w := fun b => checkKey_str (n := 9999) u2
      have upd : ∀ (ents' : Array MapEntry) (clock' : Nat), ents'.size = (updM k m es).length → (∀ (n : Nat) e u, (updM k m es)[n]? = some e → ents'[n]? = some u → EntOk σ e u) → BornOk ents' clock' →
          ∃ τ : Sg, τ.w = setBlk σ.w (σ.l i) (.map ents' clock') ∧ FInv X τ lam ⟨st.sl, st.bx, st.H.set i (.map (updM k m es))⟩ a := by
        intro ents' clock' g1 g2 g3
        obtain ⟨τ, k1, k2, k3, k4, k5⟩ := hi.updObj (j := i) (b' := σ.l i) (ob := .map es) (ob' := .map (updM k m es)) (w' := setBlk σ.w (σ.l i) (.map ents' clock')) hH trivial rfl rfl rfl (by rw [setBlk_size]; exact Nat.le_refl _)
          (fun c _ hc => setBlk_ne hc) (.inl rfl) (fun o v ho => (ho trivial).elim) rfl (by
            intro τ hmo hw _ _
            exact ⟨ents', clock', by rw [hw]; exact setBlk_get hlt, g1, fun n e u a b => (g2 n e u a b).up fun v hv => hv.mono hmo, g3⟩)
        exact ⟨τ, k1, k5⟩
      rcases findNow_spec (σ := σ) (k := k) (n := 0) (es := es) (us := ents.toList) hk (by simpa using h4) (fun i e u a b => h5 i e u a (by simpa using b)) with ⟨h6, h7, _, h8⟩ | ⟨n, m', u, h6, h7, h8, h9, h10, h11, h12⟩
      · obtain ⟨τ, k1, k2⟩ := upd (ents.push { key := .string k, val := a.eval z, born := clock }) (clock + 1) (by rw [h8]; simp [h4]) (by
          intro n e u he hu
          rw [h8] at he
          rcases Nat.lt_or_ge n es.length with hn | hn
          · rw [List.getElem?_append_left hn] at he
            rw [Array.getElem?_push, if_neg (by omega)] at hu
            exact h5 n e u he hu
          · rw [List.getElem?_append_right hn] at he
            have hz0 : n - es.length = 0 := by
              rcases Nat.eq_zero_or_pos (n - es.length) with h | h
              · exact h
              · rw [List.getElem?_eq_none (by simp; omega)] at he; cases he
            rw [hz0] at he
            simp at he; subst he
            rw [Array.getElem?_push, if_pos (by omega)] at hu
            injection hu with hu; subst hu
            exact .inl ⟨rfl, hm⟩) hbo.push
        refine OpRun.skip ?_ ⟨.m .undef, _, τ, lam, ⟨rfl, rfl⟩, k1, k2, .m (.undef _)⟩
        simp only [execOp, hu, h2, Instr.mapUpdate]
        simp [underlying, program, Sem.run, u1, getObj, h3, hck, Instr.findKey, u2, h7, setObj, setBlk]
      · have hnl : n < ents.size := by
          have := h7; simp at this
          rcases Nat.lt_or_ge n ents.size with h | h
          · exact h
          · simp [Array.getElem?_eq_none h] at this
        obtain ⟨τ, k1, k2⟩ := upd (ents.modify n fun e => { e with key := .string k, val := a.eval z }) clock (by rw [h12]; simp [h4]) (by
          intro n' e u' he hu
          rw [h12] at he
          rw [Array.getElem?_modify] at hu
          by_cases en : n = n'
          · subst en
            rw [set_get h8] at he; injection he with he; subst he
            simp [hnl] at hu
            subst hu
            exact .inl ⟨rfl, hm⟩
          · rw [List.getElem?_set_ne en] at he
            rw [if_neg en] at hu
            exact h5 n' e u' he hu) (hbo.modify fun _ => rfl)
        refine OpRun.skip ?_ ⟨.m .undef, _, τ, lam, ⟨rfl, rfl⟩, k1, k2, .m (.undef _)⟩
        have hkk : ents[n]?.map (·.key) = some (.string k) := by
          have : ents[n]? = some u := by simpa using h7
          rw [this]; simp [h10]
        have hst : (Instr.keyThatStays (.string k) (.string k)).run X.P σ.w = .ok (.string k) σ.w := by simp [Instr.keyThatStays, Instr.sameBits, ba_beq]
        simp only [execOp, hu, h2, Instr.mapUpdate]
        simp [underlying, program, Sem.run, u1, getObj, h3, hck, Instr.findKey, u2, h9, setObj, setBlk, hkk, hst]

theorem op_max {t1 t2 : Nat} {x y : Operand} {k : IntKind} {m n : Int} (hx : st.ev x = some (.m (.d (.int k m)))) (hy : st.ev y = some (.m (.d (.int k n)))) :
    OpT X ⟨dst, .call ⟨.builtin .max, #[x, y], #[t1, t2]⟩, ty, pos, af, g⟩ st (eqp (.m (.d (.int k (if n > m then n else m)))) st) := by
  refine OpT.quiet fun a σ lam hi => ?_
  exact ⟨.int k (if n > m then n else m), by simp [execOp, resolve, invoke, builtin, Builtin.max_, Builtin.max2, hi.evint hx, hi.evint hy], .m (.d (.int _ _))⟩
theorem op_min {t1 t2 : Nat} {x y : Operand} {k : IntKind} {m n : Int} (hx : st.ev x = some (.m (.d (.int k m)))) (hy : st.ev y = some (.m (.d (.int k n)))) :
    OpT X ⟨dst, .call ⟨.builtin .min, #[x, y], #[t1, t2]⟩, ty, pos, af, g⟩ st (eqp (.m (.d (.int k (if n < m then n else m)))) st) := by
  refine OpT.quiet fun a σ lam hi => ?_
  exact ⟨.int k (if n < m then n else m), by simp [execOp, resolve, invoke, builtin, Builtin.min_, Builtin.min2, hi.evint hx, hi.evint hy], .m (.d (.int _ _))⟩

class TyInt (P : Program) (t : Nat) (k : outParam IntKind) : Prop where
  u : P.underlying t = some (.int k)
theorem op_convI {s t : Nat} {x : Operand} {k k' k0 : IntKind} {n : Int} [hs : TyInt X.P s k0] [ht : TyInt X.P t k'] (hx : st.ev x = some (.m (.d (.int k n)))) :
    OpT X ⟨dst, .convert s t x, ty, pos, af, g⟩ st (eqp (.m (.d (.int k' (k'.wrap n)))) st) := by
  refine OpT.quiet fun a σ lam hi => ?_
  exact ⟨.int k' (k'.wrap n), by simp [execOp, convert, underlying, program, Sem.run, hs.u, ht.u, hi.evint hx, Conv.intToInt], .m (.d (.int _ _))⟩

end ops
end Go.Mt

set_option linter.unusedVariables false
set_option linter.unusedSimpArgs false
namespace Go.Mt

section mk
variable {X : Ctx} {st : St} {dst : Option Nat} {ty : Nat} {pos : String} {af : Array Edge} {g : Option (Nat × Bool)}
theorem op_makeSlice {T e n nb len : Nat} {x y : Operand} {k1 k2 : IntKind} {z : D} [ht : TySlice X.P T e] [hs : TySz X.P e n] [hb : TyB X.P e nb] [hz : TyZ X.P e z] (hn : Nat.blt 0 n = true) (hzl : (dcells z).length = n)
    (hx : st.ev x = some (.m (.d (.int k1 len)))) (hy : st.ev y = some (.m (.d (.int k2 len)))) (hroom : len * nb ≤ 140737488355328) (hmax : len ≤ 140737488355328) :
    OpT X ⟨dst, .makeSlice T x y, ty, pos, af, g⟩ st (eqp (.m (.rsl st.H.length 0 len)) ⟨st.sl, st.bx, st.H ++ [.row false n 0 (zlist n len (dcells z))]⟩) := by
  intro a σ lam hi
  have hn' := blt_lt hn
  have h1 := hi.evint hx
  have h2 := hi.evint hy
  obtain ⟨inf, i1, i2, i3⟩ := bytes_run hs.size hb.bytes
  obtain ⟨v, hz1, hz2⟩ := (tyZero_of hz.zero).run
  have hvc : RMc σ ((dcells z).map .d) v.cells := (RM.d (dOfVal_rep hz2) : RM σ (.d z) v).cells rfl
  have hvs : v.cells.size = n := by rw [hvc.1]; simpa using hzl
  have hc : RMc σ (zlist n len (dcells z)) ((Array.range (len * n)).map fun i => v.cells[i % v.cells.size]!) := by
    refine ⟨by simp [zlist], fun i m u hm hu => ?_⟩
    have hi' : i < len * n := by
      rcases Nat.lt_or_ge i (len * n) with h | h
      · exact h
      · rw [Array.getElem?_eq_none (by simpa using h)] at hu; cases hu
    have hmod : i % n < n := Nat.mod_lt _ hn'
    have hmd : i % n < (dcells z).length := by omega
    simp [zlist, hi', hzl] at hm
    simp [hi', hvs] at hu
    have hlt : i % n < v.cells.size := by omega
    subst hm; subst hu
    refine hvc.2 (i % n) _ _ ?_ ?_
    · simp [List.getElem?_eq_getElem hmd]
    · simp [hlt]
  obtain ⟨τ, g1, g2, g3, g4, g5⟩ := hi.newObj (.row false n 0 (zlist n len (dcells z))) (.cells ((Array.range (len * n)).map fun i => v.cells[i % v.cells.size]!) e (0, 0)) (by
    intro τ hm hw
    refine ⟨hn', _, e, len, len, by rw [hw]; exact push_self _ _, by simp, Nat.le_refl _, ⟨by simp [zlist], hmax⟩, ?_⟩
    intro k m u hm' hu
    exact ⟨(hc.2 k m u hm' hu).1.mono hm, (hc.2 k m u hm' hu).2⟩)
  refine OpRun.value (u := .slice (some ⟨σ.w.heap.size, 0, none⟩) len len) (w' := τ.w) ?_ ⟨_, _, τ, lam, ⟨rfl, rfl⟩, rfl, g5, ?_⟩
  · have hti : ∀ w : World, (typeInfo e).run X.P w = .ok inf w := fun w => by simp [typeInfo, program, Sem.run, i1]
    have hund : ∀ w : World, (underlying T).run X.P w = .ok (.slice e) w := fun w => by simp [underlying, program, Sem.run, ht.u]
    have hwrap : IntKind.i64.wrap (len : Int) = len := IntWalk.i64_in _ ⟨by omega, by omega⟩
    have hbig : ¬ ((inf.bytes : Int) * (len : Int) > 2 ^ 48) := by
      rw [i3]
      have : ((len * nb : Nat) : Int) ≤ 140737488355328 := by omega
      rw [Int.natCast_mul, Int.mul_comm] at this
      omega
    have hnneg : ¬ ((len : Int) < 0) := by omega
    have hroom' : ¬ (len * inf.bytes > roomBytes) := by rw [i3]; unfold roomBytes; omega
    by_cases h0 : len * n = 0
    · have hl0 : len = 0 := by
        rcases Nat.mul_eq_zero.1 h0 with h | h
        · exact h
        · omega
      subst hl0
      have e0 : Array.range 0 = (#[] : Array Nat) := by decide
      have w0 : IntKind.i64.wrap 0 = 0 := by decide
      simp only [execOp, Instr.makeSlice, h1, h2, asInt, asIntOf]
      simp [hund, hti, w0, size_run hs.size, askRoom, roomBytes, newRow, newObj, Sem.run, g1, e0]
    · simp only [execOp, Instr.makeSlice, h1, h2, asInt, asIntOf]
      simp [hund, hti, hwrap, size_run hs.size, askRoom, newRow, newObj, Sem.run, g1, hbig, hnneg, hroom', h0, hz1]
      first | done | omega | (split <;> first | rfl | omega)
  · have hHe : σ.H.length = st.H.length := by rw [hi.hH]
    have g2' : τ.l st.H.length = σ.w.heap.size := by rw [← hHe]; exact g2
    refine .m (.rsl _ 0 len _ len (.inr ⟨false, n, 0, zlist n len (dcells z), by rw [g3]; simp, Nat.le_refl _⟩) ?_)
    intro acc' ec' cs' hh
    rw [g3] at hh
    simp at hh
    obtain ⟨e1, e2, e3⟩ := hh
    subst e1; subst e2; subst e3
    exact ⟨by rw [g2'], by simp [zlist], _, e, by rw [g2', g1]; exact push_self _ _, by simp⟩
end mk

section rules
variable {X : Ctx} {ops : Array Oper} {rest : List Oper} {post : St → Prop} {postF : List Ef → St → Prop} {sl : List (Nat × V)} {bx : List (Nat × List M)} {H : Hp} {d ty : Nat} {pos : String} {af : Array Edge}

theorem StepF.heapW {o : Oper} {v : V} {H' : Hp} {st : St} (hg : o.guard = none) (hd : o.dst = some d) (hn : d < X.n)
    (h : ∀ st2, Ag ops o ⟨some d, v, [], [], none, true, some H'⟩ st st2 → OpT X o st2 (eqp v ⟨st2.sl, st2.bx, H'⟩)) : StepF X ops o ⟨some d, v, [], [], none, true, some H'⟩ st :=
  fun st2 ag => (h st2 ag).opS hg hd hn
theorem StepF.heapW0 {o : Oper} {v : V} {H' : Hp} {st : St} (hg : o.guard = none) (hd : o.dst = none)
    (h : ∀ st2, Ag ops o ⟨none, v, [], [], none, true, some H'⟩ st st2 → OpT X o st2 (eqp v ⟨st2.sl, st2.bx, H'⟩)) : StepF X ops o ⟨none, v, [], [], none, true, some H'⟩ st :=
  fun st2 ag => (h st2 ag).opS0 hg hd

theorem t_loadRc {T : Nat} {x : Operand} {i off : Nat} {cs : List M} {m : M} [ht : TyCell X.P T] (hn : Nat.blt d X.n = true) (hx : evs sl x = some (.m (.ref i off))) (hH : H[i]? = some (.box cs)) (hr : cs[off]? = some m) (k : TL X ops rest ⟨(d, (.m m)) :: sl, bx, H⟩ post) : TL X ops (⟨some d, .load T x, ty, pos, af, none⟩ :: rest) ⟨sl, bx, H⟩ post :=
  TL.o1 rfl rfl hn (op_loadR hx hH (by simp [readAt, ht.cell, hr])) k
theorem f_loadRc {T : Nat} {x : Operand} {i off : Nat} {cs : List M} {m : M} [ht : TyCell X.P T] (hn : Nat.blt d X.n = true) (hx : evs sl x = some (.m (.ref i off))) (hH : H[i]? = some (.box cs)) (hr : cs[off]? = some m) (k : TF X ops rest ⟨(d, (.m m)) :: sl, bx, H⟩ fun ees zz => postF (⟨some d, (.m m), [], [], none, true, none⟩ :: ees) zz) : TF X ops (⟨some d, .load T x, ty, pos, af, none⟩ :: rest) ⟨sl, bx, H⟩ postF :=
  TF.cons (e := ⟨some d, (.m m), [], [], none, true, none⟩) (StepF.quiet rfl rfl (blt_lt hn) fun st2 ag => op_loadR ((ag.ev (x := x) (by simp [Op.operands, Call.operands])).trans hx) (by rw [ag.H rfl]; exact hH) (by simp [readAt, ht.cell, hr])) rfl k
theorem t_loadRa {T n : Nat} {x : Operand} {i off : Nat} {cs cs2 : List M} {ds : List D} [ht : TyAgg X.P T n] (hn : Nat.blt d X.n = true) (hx : evs sl x = some (.m (.ref i off))) (hH : H[i]? = some (.box cs)) (hs : sub cs off n = some cs2) (hr : allD cs2 = some ds) (k : TL X ops rest ⟨(d, (.m (.d (.agg ds)))) :: sl, bx, H⟩ post) : TL X ops (⟨some d, .load T x, ty, pos, af, none⟩ :: rest) ⟨sl, bx, H⟩ post :=
  TL.o1 rfl rfl hn (op_loadR hx hH (by simp [readAt, ht.agg, ht.size, Nat.ble_eq_true_of_le (sub_eq hs).1, pack, (sub_eq hs).2, hr])) k
theorem f_loadRa {T n : Nat} {x : Operand} {i off : Nat} {cs cs2 : List M} {ds : List D} [ht : TyAgg X.P T n] (hn : Nat.blt d X.n = true) (hx : evs sl x = some (.m (.ref i off))) (hH : H[i]? = some (.box cs)) (hs : sub cs off n = some cs2) (hr : allD cs2 = some ds) (k : TF X ops rest ⟨(d, (.m (.d (.agg ds)))) :: sl, bx, H⟩ fun ees zz => postF (⟨some d, (.m (.d (.agg ds))), [], [], none, true, none⟩ :: ees) zz) : TF X ops (⟨some d, .load T x, ty, pos, af, none⟩ :: rest) ⟨sl, bx, H⟩ postF :=
  TF.cons (e := ⟨some d, (.m (.d (.agg ds))), [], [], none, true, none⟩) (StepF.quiet rfl rfl (blt_lt hn) fun st2 ag => op_loadR ((ag.ev (x := x) (by simp [Op.operands, Call.operands])).trans hx) (by rw [ag.H rfl]; exact hH) (by simp [readAt, ht.agg, ht.size, Nat.ble_eq_true_of_le (sub_eq hs).1, pack, (sub_eq hs).2, hr])) rfl k
theorem t_loadWc {T : Nat} {x : Operand} {i ver off ec : Nat} {acc : Bool} {cs : List M} {m : M} [ht : TyCell X.P T] (hn : Nat.blt d X.n = true) (hx : evs sl x = some (.m (.rref i ver off))) (hH : H[i]? = some (.row acc ec ver cs)) (hr : cs[off]? = some m) (k : TL X ops rest ⟨(d, (.m m)) :: sl, bx, H⟩ post) : TL X ops (⟨some d, .load T x, ty, pos, af, none⟩ :: rest) ⟨sl, bx, H⟩ post :=
  TL.o1 rfl rfl hn (op_loadW hx hH (by simp [readAt, ht.cell, hr])) k
theorem f_loadWc {T : Nat} {x : Operand} {i ver off ec : Nat} {acc : Bool} {cs : List M} {m : M} [ht : TyCell X.P T] (hn : Nat.blt d X.n = true) (hx : evs sl x = some (.m (.rref i ver off))) (hH : H[i]? = some (.row acc ec ver cs)) (hr : cs[off]? = some m) (k : TF X ops rest ⟨(d, (.m m)) :: sl, bx, H⟩ fun ees zz => postF (⟨some d, (.m m), [], [], none, true, none⟩ :: ees) zz) : TF X ops (⟨some d, .load T x, ty, pos, af, none⟩ :: rest) ⟨sl, bx, H⟩ postF :=
  TF.cons (e := ⟨some d, (.m m), [], [], none, true, none⟩) (StepF.quiet rfl rfl (blt_lt hn) fun st2 ag => op_loadW ((ag.ev (x := x) (by simp [Op.operands, Call.operands])).trans hx) (by rw [ag.H rfl]; exact hH) (by simp [readAt, ht.cell, hr])) rfl k
theorem t_loadWa {T n : Nat} {x : Operand} {i ver off ec : Nat} {acc : Bool} {cs cs2 : List M} {ds : List D} [ht : TyAgg X.P T n] (hn : Nat.blt d X.n = true) (hx : evs sl x = some (.m (.rref i ver off))) (hH : H[i]? = some (.row acc ec ver cs)) (hs : (cs.drop off).take n = cs2) (hle : off + n ≤ cs.length) (hr : allD cs2 = some ds) (k : TL X ops rest ⟨(d, (.m (.d (.agg ds)))) :: sl, bx, H⟩ post) : TL X ops (⟨some d, .load T x, ty, pos, af, none⟩ :: rest) ⟨sl, bx, H⟩ post :=
  TL.o1 rfl rfl hn (op_loadW hx hH (by simp [readAt, ht.agg, ht.size, Nat.ble_eq_true_of_le hle, pack, hs, hr])) k
theorem f_loadWa {T n : Nat} {x : Operand} {i ver off ec : Nat} {acc : Bool} {cs cs2 : List M} {ds : List D} [ht : TyAgg X.P T n] (hn : Nat.blt d X.n = true) (hx : evs sl x = some (.m (.rref i ver off))) (hH : H[i]? = some (.row acc ec ver cs)) (hs : (cs.drop off).take n = cs2) (hle : off + n ≤ cs.length) (hr : allD cs2 = some ds) (k : TF X ops rest ⟨(d, (.m (.d (.agg ds)))) :: sl, bx, H⟩ fun ees zz => postF (⟨some d, (.m (.d (.agg ds))), [], [], none, true, none⟩ :: ees) zz) : TF X ops (⟨some d, .load T x, ty, pos, af, none⟩ :: rest) ⟨sl, bx, H⟩ postF :=
  TF.cons (e := ⟨some d, (.m (.d (.agg ds))), [], [], none, true, none⟩) (StepF.quiet rfl rfl (blt_lt hn) fun st2 ag => op_loadW ((ag.ev (x := x) (by simp [Op.operands, Call.operands])).trans hx) (by rw [ag.H rfl]; exact hH) (by simp [readAt, ht.agg, ht.size, Nat.ble_eq_true_of_le hle, pack, hs, hr])) rfl k
theorem t_indexR {t e ec : Nat} {x y : Operand} {j ver len : Nat} {acc : Bool} {cs : List M} {kk : IntKind} {i : Int} [ht : TySlice X.P t e] [hs : TySz X.P e ec] (hn : Nat.blt d X.n = true) (hx : evs sl x = some (.m (.rsl j ver len))) (hy : evs sl y = some (.m (.d (.int kk i)))) (hH : H[j]? = some (.row acc ec ver cs)) (h0 : 0 ≤ i) (hlt : i < len) (k : TL X ops rest ⟨(d, (.m (.rref j ver (i.toNat * ec)))) :: sl, bx, H⟩ post) : TL X ops (⟨some d, .indexAddr t x y, ty, pos, af, none⟩ :: rest) ⟨sl, bx, H⟩ post :=
  TL.o1 rfl rfl hn (op_indexR hx hy hH h0 hlt) k
theorem f_indexR {t e ec : Nat} {x y : Operand} {j ver len : Nat} {acc : Bool} {cs : List M} {kk : IntKind} {i : Int} [ht : TySlice X.P t e] [hs : TySz X.P e ec] (hn : Nat.blt d X.n = true) (hx : evs sl x = some (.m (.rsl j ver len))) (hy : evs sl y = some (.m (.d (.int kk i)))) (hH : H[j]? = some (.row acc ec ver cs)) (h0 : 0 ≤ i) (hlt : i < len) (k : TF X ops rest ⟨(d, (.m (.rref j ver (i.toNat * ec)))) :: sl, bx, H⟩ fun ees zz => postF (⟨some d, (.m (.rref j ver (i.toNat * ec))), [], [], none, true, none⟩ :: ees) zz) : TF X ops (⟨some d, .indexAddr t x y, ty, pos, af, none⟩ :: rest) ⟨sl, bx, H⟩ postF :=
  TF.cons (e := ⟨some d, (.m (.rref j ver (i.toNat * ec))), [], [], none, true, none⟩) (StepF.quiet rfl rfl (blt_lt hn) fun st2 ag => op_indexR ((ag.ev (x := x) (by simp [Op.operands, Call.operands])).trans hx) ((ag.ev (x := y) (by simp [Op.operands, Call.operands])).trans hy) (by rw [ag.H rfl]; exact hH) h0 hlt) rfl k
theorem t_lenR {t e : Nat} {x : Operand} {j ver len : Nat} [ht : TySlice X.P t e] (hn : Nat.blt d X.n = true) (hx : evs sl x = some (.m (.rsl j ver len))) (k : TL X ops rest ⟨(d, (.m (.d (.int .i64 len)))) :: sl, bx, H⟩ post) : TL X ops (⟨some d, .call ⟨.builtin .len, #[x], #[t]⟩, ty, pos, af, none⟩ :: rest) ⟨sl, bx, H⟩ post :=
  TL.o1 rfl rfl hn (op_lenR hx) k
theorem f_lenR {t e : Nat} {x : Operand} {j ver len : Nat} [ht : TySlice X.P t e] (hn : Nat.blt d X.n = true) (hx : evs sl x = some (.m (.rsl j ver len))) (k : TF X ops rest ⟨(d, (.m (.d (.int .i64 len)))) :: sl, bx, H⟩ fun ees zz => postF (⟨some d, (.m (.d (.int .i64 len))), [], [], none, true, none⟩ :: ees) zz) : TF X ops (⟨some d, .call ⟨.builtin .len, #[x], #[t]⟩, ty, pos, af, none⟩ :: rest) ⟨sl, bx, H⟩ postF :=
  TF.cons (e := ⟨some d, (.m (.d (.int .i64 len))), [], [], none, true, none⟩) (StepF.quiet rfl rfl (blt_lt hn) fun st2 ag => op_lenR ((ag.ev (x := x) (by simp [Op.operands, Call.operands])).trans hx)) rfl k
theorem t_lookup2 {T e : Nat} {x y : Operand} {i : Nat} {kk : ByteArray} {es : List (D × M)} {z : D} [ht : TyMapS X.P T e] [hz : TyZ X.P e z] (hn : Nat.blt d X.n = true) (hx : evs sl x = some (.m (.mp i))) (hy : evs sl y = some (.m (.d (.str kk)))) (hH : H[i]? = some (.map es)) (hk : strKeys es = true) (k : TL X ops rest ⟨(d, (.m (match lookM kk es with | some m => .tup [m, .d (.bool true)] | none => .tup [.d z, .d (.bool false)]))) :: sl, bx, H⟩ post) : TL X ops (⟨some d, .lookup T x y true, ty, pos, af, none⟩ :: rest) ⟨sl, bx, H⟩ post :=
  TL.o1 rfl rfl hn (op_lookup2 hx hy hH hk) k
theorem f_lookup2 {T e : Nat} {x y : Operand} {i : Nat} {kk : ByteArray} {es : List (D × M)} {z : D} [ht : TyMapS X.P T e] [hz : TyZ X.P e z] (hn : Nat.blt d X.n = true) (hx : evs sl x = some (.m (.mp i))) (hy : evs sl y = some (.m (.d (.str kk)))) (hH : H[i]? = some (.map es)) (hk : strKeys es = true) (k : TF X ops rest ⟨(d, (.m (match lookM kk es with | some m => .tup [m, .d (.bool true)] | none => .tup [.d z, .d (.bool false)]))) :: sl, bx, H⟩ fun ees zz => postF (⟨some d, (.m (match lookM kk es with | some m => .tup [m, .d (.bool true)] | none => .tup [.d z, .d (.bool false)])), [], [], none, true, none⟩ :: ees) zz) : TF X ops (⟨some d, .lookup T x y true, ty, pos, af, none⟩ :: rest) ⟨sl, bx, H⟩ postF :=
  TF.cons (e := ⟨some d, (.m (match lookM kk es with | some m => .tup [m, .d (.bool true)] | none => .tup [.d z, .d (.bool false)])), [], [], none, true, none⟩) (StepF.quiet rfl rfl (blt_lt hn) fun st2 ag => op_lookup2 ((ag.ev (x := x) (by simp [Op.operands, Call.operands])).trans hx) ((ag.ev (x := y) (by simp [Op.operands, Call.operands])).trans hy) (by rw [ag.H rfl]; exact hH) hk) rfl k
theorem t_lookup1 {T e : Nat} {x y : Operand} {i : Nat} {kk : ByteArray} {es : List (D × M)} {z : D} [ht : TyMapS X.P T e] [hz : TyZ X.P e z] (hn : Nat.blt d X.n = true) (hx : evs sl x = some (.m (.mp i))) (hy : evs sl y = some (.m (.d (.str kk)))) (hH : H[i]? = some (.map es)) (hk : strKeys es = true) (k : TL X ops rest ⟨(d, (.m (match lookM kk es with | some m => m | none => .d z))) :: sl, bx, H⟩ post) : TL X ops (⟨some d, .lookup T x y false, ty, pos, af, none⟩ :: rest) ⟨sl, bx, H⟩ post :=
  TL.o1 rfl rfl hn (op_lookup1 hx hy hH hk) k
theorem f_lookup1 {T e : Nat} {x y : Operand} {i : Nat} {kk : ByteArray} {es : List (D × M)} {z : D} [ht : TyMapS X.P T e] [hz : TyZ X.P e z] (hn : Nat.blt d X.n = true) (hx : evs sl x = some (.m (.mp i))) (hy : evs sl y = some (.m (.d (.str kk)))) (hH : H[i]? = some (.map es)) (hk : strKeys es = true) (k : TF X ops rest ⟨(d, (.m (match lookM kk es with | some m => m | none => .d z))) :: sl, bx, H⟩ fun ees zz => postF (⟨some d, (.m (match lookM kk es with | some m => m | none => .d z)), [], [], none, true, none⟩ :: ees) zz) : TF X ops (⟨some d, .lookup T x y false, ty, pos, af, none⟩ :: rest) ⟨sl, bx, H⟩ postF :=
  TF.cons (e := ⟨some d, (.m (match lookM kk es with | some m => m | none => .d z)), [], [], none, true, none⟩) (StepF.quiet rfl rfl (blt_lt hn) fun st2 ag => op_lookup1 ((ag.ev (x := x) (by simp [Op.operands, Call.operands])).trans hx) ((ag.ev (x := y) (by simp [Op.operands, Call.operands])).trans hy) (by rw [ag.H rfl]; exact hH) hk) rfl k
theorem t_max {t1 t2 : Nat} {x y : Operand} {kk : IntKind} {m n : Int} (hn : Nat.blt d X.n = true) (hx : evs sl x = some (.m (.d (.int kk m)))) (hy : evs sl y = some (.m (.d (.int kk n)))) (k : TL X ops rest ⟨(d, (.m (.d (.int kk (if n > m then n else m))))) :: sl, bx, H⟩ post) : TL X ops (⟨some d, .call ⟨.builtin .max, #[x, y], #[t1, t2]⟩, ty, pos, af, none⟩ :: rest) ⟨sl, bx, H⟩ post :=
  TL.o1 rfl rfl hn (op_max hx hy) k
theorem f_max {t1 t2 : Nat} {x y : Operand} {kk : IntKind} {m n : Int} (hn : Nat.blt d X.n = true) (hx : evs sl x = some (.m (.d (.int kk m)))) (hy : evs sl y = some (.m (.d (.int kk n)))) (k : TF X ops rest ⟨(d, (.m (.d (.int kk (if n > m then n else m))))) :: sl, bx, H⟩ fun ees zz => postF (⟨some d, (.m (.d (.int kk (if n > m then n else m)))), [], [], none, true, none⟩ :: ees) zz) : TF X ops (⟨some d, .call ⟨.builtin .max, #[x, y], #[t1, t2]⟩, ty, pos, af, none⟩ :: rest) ⟨sl, bx, H⟩ postF :=
  TF.cons (e := ⟨some d, (.m (.d (.int kk (if n > m then n else m)))), [], [], none, true, none⟩) (StepF.quiet rfl rfl (blt_lt hn) fun st2 ag => op_max ((ag.ev (x := x) (by simp [Op.operands, Call.operands])).trans hx) ((ag.ev (x := y) (by simp [Op.operands, Call.operands])).trans hy)) rfl k
theorem t_min {t1 t2 : Nat} {x y : Operand} {kk : IntKind} {m n : Int} (hn : Nat.blt d X.n = true) (hx : evs sl x = some (.m (.d (.int kk m)))) (hy : evs sl y = some (.m (.d (.int kk n)))) (k : TL X ops rest ⟨(d, (.m (.d (.int kk (if n < m then n else m))))) :: sl, bx, H⟩ post) : TL X ops (⟨some d, .call ⟨.builtin .min, #[x, y], #[t1, t2]⟩, ty, pos, af, none⟩ :: rest) ⟨sl, bx, H⟩ post :=
  TL.o1 rfl rfl hn (op_min hx hy) k
theorem f_min {t1 t2 : Nat} {x y : Operand} {kk : IntKind} {m n : Int} (hn : Nat.blt d X.n = true) (hx : evs sl x = some (.m (.d (.int kk m)))) (hy : evs sl y = some (.m (.d (.int kk n)))) (k : TF X ops rest ⟨(d, (.m (.d (.int kk (if n < m then n else m))))) :: sl, bx, H⟩ fun ees zz => postF (⟨some d, (.m (.d (.int kk (if n < m then n else m)))), [], [], none, true, none⟩ :: ees) zz) : TF X ops (⟨some d, .call ⟨.builtin .min, #[x, y], #[t1, t2]⟩, ty, pos, af, none⟩ :: rest) ⟨sl, bx, H⟩ postF :=
  TF.cons (e := ⟨some d, (.m (.d (.int kk (if n < m then n else m)))), [], [], none, true, none⟩) (StepF.quiet rfl rfl (blt_lt hn) fun st2 ag => op_min ((ag.ev (x := x) (by simp [Op.operands, Call.operands])).trans hx) ((ag.ev (x := y) (by simp [Op.operands, Call.operands])).trans hy)) rfl k
theorem t_convI {s t : Nat} {x : Operand} {kk k2 k0 : IntKind} {n : Int} [hs : TyInt X.P s k0] [ht : TyInt X.P t k2] (hn : Nat.blt d X.n = true) (hx : evs sl x = some (.m (.d (.int kk n)))) (k : TL X ops rest ⟨(d, (.m (.d (.int k2 (k2.wrap n))))) :: sl, bx, H⟩ post) : TL X ops (⟨some d, .convert s t x, ty, pos, af, none⟩ :: rest) ⟨sl, bx, H⟩ post :=
  TL.o1 rfl rfl hn (op_convI hx) k
theorem f_convI {s t : Nat} {x : Operand} {kk k2 k0 : IntKind} {n : Int} [hs : TyInt X.P s k0] [ht : TyInt X.P t k2] (hn : Nat.blt d X.n = true) (hx : evs sl x = some (.m (.d (.int kk n)))) (k : TF X ops rest ⟨(d, (.m (.d (.int k2 (k2.wrap n))))) :: sl, bx, H⟩ fun ees zz => postF (⟨some d, (.m (.d (.int k2 (k2.wrap n)))), [], [], none, true, none⟩ :: ees) zz) : TF X ops (⟨some d, .convert s t x, ty, pos, af, none⟩ :: rest) ⟨sl, bx, H⟩ postF :=
  TF.cons (e := ⟨some d, (.m (.d (.int k2 (k2.wrap n)))), [], [], none, true, none⟩) (StepF.quiet rfl rfl (blt_lt hn) fun st2 ag => op_convI ((ag.ev (x := x) (by simp [Op.operands, Call.operands])).trans hx)) rfl k
theorem t_boxH {T : Nat} {x : Operand} {m : M} {cs : List M} (hn : Nat.blt d X.n = true) (hx : evs sl x = some (.m m)) (hc : cellsO m = some cs) (k : TL X ops rest ⟨(d, (.m (.ref H.length 0))) :: sl, bx, H ++ [Ob.box cs]⟩ post) : TL X ops (⟨some d, .box T x, ty, pos, af, none⟩ :: rest) ⟨sl, bx, H⟩ post :=
  TL.o1 rfl rfl hn ((by rw [← (cellsO_eq hc).1]; exact op_boxH hx (cellsO_eq hc).2)) k
theorem f_boxH {T : Nat} {x : Operand} {m : M} {cs : List M} (hn : Nat.blt d X.n = true) (hx : evs sl x = some (.m m)) (hc : cellsO m = some cs) (k : TF X ops rest ⟨(d, (.m (.ref H.length 0))) :: sl, bx, H ++ [Ob.box cs]⟩ fun ees zz => postF (⟨some d, (.m (.ref H.length 0)), [], [], none, true, some (H ++ [Ob.box cs])⟩ :: ees) zz) : TF X ops (⟨some d, .box T x, ty, pos, af, none⟩ :: rest) ⟨sl, bx, H⟩ postF :=
  TF.cons (e := ⟨some d, (.m (.ref H.length 0)), [], [], none, true, some (H ++ [Ob.box cs])⟩) (StepF.heapW rfl rfl (blt_lt hn) fun st2 ag => (by have hst := ag.H rfl; simp only at hst; have := (op_boxH (X := X) (st := st2) (dst := some d) (ty := ty) (pos := pos) (af := af) (g := none) (T := T) ((ag.ev (x := x) (by simp [Op.operands, Call.operands])).trans hx) (cellsO_eq hc).2); rw [hst] at this; rw [(cellsO_eq hc).1] at this; exact this)) rfl k
theorem t_makeMap {T : Nat} (hn : Nat.blt d X.n = true)  (k : TL X ops rest ⟨(d, (.m (.mp H.length))) :: sl, bx, H ++ [Ob.map []]⟩ post) : TL X ops (⟨some d, .makeMap T none, ty, pos, af, none⟩ :: rest) ⟨sl, bx, H⟩ post :=
  TL.o1 rfl rfl hn (op_makeMap) k
theorem f_makeMap {T : Nat} (hn : Nat.blt d X.n = true)  (k : TF X ops rest ⟨(d, (.m (.mp H.length))) :: sl, bx, H ++ [Ob.map []]⟩ fun ees zz => postF (⟨some d, (.m (.mp H.length)), [], [], none, true, some (H ++ [Ob.map []])⟩ :: ees) zz) : TF X ops (⟨some d, .makeMap T none, ty, pos, af, none⟩ :: rest) ⟨sl, bx, H⟩ postF :=
  TF.cons (e := ⟨some d, (.m (.mp H.length)), [], [], none, true, some (H ++ [Ob.map []])⟩) (StepF.heapW rfl rfl (blt_lt hn) fun st2 ag => (by have hst := ag.H rfl; simp only at hst; have := (op_makeMap (X := X) (st := st2) (dst := some d) (ty := ty) (pos := pos) (af := af) (g := none) (T := T)); rw [hst] at this; exact this)) rfl k
theorem t_makeSlice {T e n nb len : Nat} {x y : Operand} {k1 k2 : IntKind} {z : D} [ht : TySlice X.P T e] [hs : TySz X.P e n] [hb : TyB X.P e nb] [hz : TyZ X.P e z] (hn : Nat.blt d X.n = true) (hx : evs sl x = some (.m (.d (.int k1 len)))) (hy : evs sl y = some (.m (.d (.int k2 len)))) (h0 : Nat.blt 0 n = true) (hzl : (dcells z).length = n) (hroom : len * nb ≤ 140737488355328) (hmax : len ≤ 140737488355328) (k : TL X ops rest ⟨(d, (.m (.rsl H.length 0 len))) :: sl, bx, H ++ [Ob.row false n 0 (zlist n len (dcells z))]⟩ post) : TL X ops (⟨some d, .makeSlice T x y, ty, pos, af, none⟩ :: rest) ⟨sl, bx, H⟩ post :=
  TL.o1 rfl rfl hn (op_makeSlice h0 hzl hx hy hroom hmax) k
theorem f_makeSlice {T e n nb len : Nat} {x y : Operand} {k1 k2 : IntKind} {z : D} [ht : TySlice X.P T e] [hs : TySz X.P e n] [hb : TyB X.P e nb] [hz : TyZ X.P e z] (hn : Nat.blt d X.n = true) (hx : evs sl x = some (.m (.d (.int k1 len)))) (hy : evs sl y = some (.m (.d (.int k2 len)))) (h0 : Nat.blt 0 n = true) (hzl : (dcells z).length = n) (hroom : len * nb ≤ 140737488355328) (hmax : len ≤ 140737488355328) (k : TF X ops rest ⟨(d, (.m (.rsl H.length 0 len))) :: sl, bx, H ++ [Ob.row false n 0 (zlist n len (dcells z))]⟩ fun ees zz => postF (⟨some d, (.m (.rsl H.length 0 len)), [], [], none, true, some (H ++ [Ob.row false n 0 (zlist n len (dcells z))])⟩ :: ees) zz) : TF X ops (⟨some d, .makeSlice T x y, ty, pos, af, none⟩ :: rest) ⟨sl, bx, H⟩ postF :=
  TF.cons (e := ⟨some d, (.m (.rsl H.length 0 len)), [], [], none, true, some (H ++ [Ob.row false n 0 (zlist n len (dcells z))])⟩) (StepF.heapW rfl rfl (blt_lt hn) fun st2 ag => (by have hst := ag.H rfl; simp only at hst; have := (op_makeSlice (X := X) (st := st2) (dst := some d) (ty := ty) (pos := pos) (af := af) (g := none) (T := T) h0 hzl ((ag.ev (x := x) (by simp [Op.operands, Call.operands])).trans hx) ((ag.ev (x := y) (by simp [Op.operands, Call.operands])).trans hy) hroom hmax); rw [hst] at this; exact this)) rfl k
theorem t_storeR {T n : Nat} {x y : Operand} {i off : Nat} {cs new cs2 : List M} {m : M} [hs : TySz X.P T n] (hx : evs sl x = some (.m (.ref i off))) (hy : evs sl y = some (.m m)) (hH : H[i]? = some (.box cs)) (hc : cellsO m = some new) (hl : Nat.beq new.length n = true) (hw : wr cs off new = some cs2) (k : TL X ops rest ⟨sl, bx, H.set i (Ob.box cs2)⟩ post) : TL X ops (⟨none, .store T x y, ty, pos, af, none⟩ :: rest) ⟨sl, bx, H⟩ post :=
  TL.op01 rfl rfl (op_storeR hx hy hH (by rw [(cellsO_eq hc).1]; exact Nat.eq_of_beq_eq_true hl) (cellsO_eq hc).2 (by rw [(cellsO_eq hc).1]; exact wr_eq hw)) k
theorem f_storeR {T n : Nat} {x y : Operand} {i off : Nat} {cs new cs2 : List M} {m : M} [hs : TySz X.P T n] (hx : evs sl x = some (.m (.ref i off))) (hy : evs sl y = some (.m m)) (hH : H[i]? = some (.box cs)) (hc : cellsO m = some new) (hl : Nat.beq new.length n = true) (hw : wr cs off new = some cs2) (k : TF X ops rest ⟨sl, bx, H.set i (Ob.box cs2)⟩ fun ees zz => postF (⟨none, .m .undef, [], [], none, true, some (H.set i (Ob.box cs2))⟩ :: ees) zz) : TF X ops (⟨none, .store T x y, ty, pos, af, none⟩ :: rest) ⟨sl, bx, H⟩ postF :=
  TF.cons (e := ⟨none, .m .undef, [], [], none, true, some (H.set i (Ob.box cs2))⟩) (StepF.heapW0 rfl rfl fun st2 ag => (by have hst := ag.H rfl; simp only at hst; have := (op_storeR (X := X) (st := st2) (dst := none) (ty := ty) (pos := pos) (af := af) (g := none) (T := T) ((ag.ev (x := x) (by simp [Op.operands, Call.operands])).trans hx) ((ag.ev (x := y) (by simp [Op.operands, Call.operands])).trans hy) (by rw [ag.H rfl]; exact hH) (by rw [(cellsO_eq hc).1]; exact Nat.eq_of_beq_eq_true hl) (cellsO_eq hc).2 (by rw [(cellsO_eq hc).1]; exact wr_eq hw)); rw [hst] at this; exact this)) rfl k
theorem t_storeW {T n : Nat} {x y : Operand} {i ver off ec : Nat} {cs new cs2 : List M} {m : M} [hs : TySz X.P T n] (hx : evs sl x = some (.m (.rref i ver off))) (hy : evs sl y = some (.m m)) (hH : H[i]? = some (.row false ec ver cs)) (hc : cellsO m = some new) (hl : Nat.beq new.length n = true) (hw : writeAt cs off new = some cs2) (k : TL X ops rest ⟨sl, bx, H.set i (Ob.row false ec ver cs2)⟩ post) : TL X ops (⟨none, .store T x y, ty, pos, af, none⟩ :: rest) ⟨sl, bx, H⟩ post :=
  TL.op01 rfl rfl (op_storeW hx hy hH (by rw [(cellsO_eq hc).1]; exact Nat.eq_of_beq_eq_true hl) (cellsO_eq hc).2 (by rw [(cellsO_eq hc).1]; exact hw)) k
theorem f_storeW {T n : Nat} {x y : Operand} {i ver off ec : Nat} {cs new cs2 : List M} {m : M} [hs : TySz X.P T n] (hx : evs sl x = some (.m (.rref i ver off))) (hy : evs sl y = some (.m m)) (hH : H[i]? = some (.row false ec ver cs)) (hc : cellsO m = some new) (hl : Nat.beq new.length n = true) (hw : writeAt cs off new = some cs2) (k : TF X ops rest ⟨sl, bx, H.set i (Ob.row false ec ver cs2)⟩ fun ees zz => postF (⟨none, .m .undef, [], [], none, true, some (H.set i (Ob.row false ec ver cs2))⟩ :: ees) zz) : TF X ops (⟨none, .store T x y, ty, pos, af, none⟩ :: rest) ⟨sl, bx, H⟩ postF :=
  TF.cons (e := ⟨none, .m .undef, [], [], none, true, some (H.set i (Ob.row false ec ver cs2))⟩) (StepF.heapW0 rfl rfl fun st2 ag => (by have hst := ag.H rfl; simp only at hst; have := (op_storeW (X := X) (st := st2) (dst := none) (ty := ty) (pos := pos) (af := af) (g := none) (T := T) ((ag.ev (x := x) (by simp [Op.operands, Call.operands])).trans hx) ((ag.ev (x := y) (by simp [Op.operands, Call.operands])).trans hy) (by rw [ag.H rfl]; exact hH) (by rw [(cellsO_eq hc).1]; exact Nat.eq_of_beq_eq_true hl) (cellsO_eq hc).2 (by rw [(cellsO_eq hc).1]; exact hw)); rw [hst] at this; exact this)) rfl k
theorem t_mapUpdate {T e : Nat} {x y z : Operand} {i : Nat} {kk : ByteArray} {es : List (D × M)} {m : M} [ht : TyMapS X.P T e] (hx : evs sl x = some (.m (.mp i))) (hy : evs sl y = some (.m (.d (.str kk)))) (hz : evs sl z = some (.m m)) (hH : H[i]? = some (.map es)) (hk : strKeys es = true) (k : TL X ops rest ⟨sl, bx, H.set i (Ob.map (updM kk m es))⟩ post) : TL X ops (⟨none, .mapUpdate T x y z, ty, pos, af, none⟩ :: rest) ⟨sl, bx, H⟩ post :=
  TL.op01 rfl rfl (op_mapUpdate hx hy hz hH hk) k
theorem f_mapUpdate {T e : Nat} {x y z : Operand} {i : Nat} {kk : ByteArray} {es : List (D × M)} {m : M} [ht : TyMapS X.P T e] (hx : evs sl x = some (.m (.mp i))) (hy : evs sl y = some (.m (.d (.str kk)))) (hz : evs sl z = some (.m m)) (hH : H[i]? = some (.map es)) (hk : strKeys es = true) (k : TF X ops rest ⟨sl, bx, H.set i (Ob.map (updM kk m es))⟩ fun ees zz => postF (⟨none, .m .undef, [], [], none, true, some (H.set i (Ob.map (updM kk m es)))⟩ :: ees) zz) : TF X ops (⟨none, .mapUpdate T x y z, ty, pos, af, none⟩ :: rest) ⟨sl, bx, H⟩ postF :=
  TF.cons (e := ⟨none, .m .undef, [], [], none, true, some (H.set i (Ob.map (updM kk m es)))⟩) (StepF.heapW0 rfl rfl fun st2 ag => (by have hst := ag.H rfl; simp only at hst; have := (op_mapUpdate (X := X) (st := st2) (dst := none) (ty := ty) (pos := pos) (af := af) (g := none) (T := T) ((ag.ev (x := x) (by simp [Op.operands, Call.operands])).trans hx) ((ag.ev (x := y) (by simp [Op.operands, Call.operands])).trans hy) ((ag.ev (x := z) (by simp [Op.operands, Call.operands])).trans hz) (by rw [ag.H rfl]; exact hH) hk); rw [hst] at this; exact this)) rfl k

/-- a call over the heap, in a region that draws: what it gives is known -/
theorem f_callR {f : Nat} {args : List Operand} {tys : Array Nat} {ms : List M} {r : M} {H' : Hp} [hf : IsFn X.P f] (h : CT X.P f ms H fun r' h' => r' = r ∧ h' = H') (hn : Nat.blt d X.n = true) (ha : evMs sl args = some ms)
    (k : TF X ops rest ⟨(d, .m r) :: sl, bx, H'⟩ fun es zz => postF (⟨some d, .m r, [], [], none, true, some H'⟩ :: es) zz) : TF X ops (⟨some d, .call ⟨.value (.func f), args.toArray, tys⟩, ty, pos, af, none⟩ :: rest) ⟨sl, bx, H⟩ postF := by
  refine TF.cons (e := ⟨some d, .m r, [], [], none, true, some H'⟩) (StepF.heapW rfl rfl (blt_lt hn) fun st2 ag => ?_) rfl k
  have hst := ag.H rfl
  simp only at hst
  have h1 := op_callR (X := X) (st := st2) (dst := some d) (ty := ty) (pos := pos) (af := af) (g := none) (tys := tys) (args := args) (f := f) (ms := ms) (post := fun r' h' => r' = r ∧ h' = H') (by rw [ag.evMs (fun x hx => by simp [Op.operands, Call.operands]; exact .inr hx), evMs_eq]; exact ha) (by rw [hst]; exact h)
  intro a σ lam hi
  have h2 := h1 a σ lam hi
  have hp : ∀ v s, (∃ r0 h0, v = V.m r0 ∧ (r0 = r ∧ h0 = H') ∧ s = (⟨st2.sl, st2.bx, h0⟩ : St)) → eqp (.m r) ⟨st2.sl, st2.bx, H'⟩ v s := by rintro v s ⟨r0, h0, rfl, ⟨rfl, rfl⟩, rfl⟩; exact ⟨rfl, rfl⟩
  unfold OpRun at h2 ⊢
  generalize (execOp a.eval _).run X.P σ.w = z at *
  cases z with
  | ok y w' =>
    cases y <;> simp only at h2 ⊢ <;> first
      | (obtain ⟨v, s, σ', l', h1, h2⟩ := h2; exact ⟨v, s, σ', l', hp _ _ h1, h2⟩)
      | exact h2.mono fun e w'' ⟨u, he, v, s, σ', l', h1, h2⟩ => ⟨u, he, v, s, σ', l', hp _ _ h1, h2⟩
      | exact h2
  | halt y w' => exact h2
/-- a call that only reads the heap -/
theorem f_callRo {f : Nat} {args : List Operand} {tys : Array Nat} {ms : List M} {r : M} [hf : IsFn X.P f] (h : CT X.P f ms H fun r' h' => r' = r ∧ h' = H) (hn : Nat.blt d X.n = true) (ha : evMs sl args = some ms)
    (k : TF X ops rest ⟨(d, .m r) :: sl, bx, H⟩ fun es zz => postF (⟨some d, .m r, [], [], none, true, none⟩ :: es) zz) : TF X ops (⟨some d, .call ⟨.value (.func f), args.toArray, tys⟩, ty, pos, af, none⟩ :: rest) ⟨sl, bx, H⟩ postF := by
  refine TF.cons (e := ⟨some d, .m r, [], [], none, true, none⟩) (StepF.quiet rfl rfl (blt_lt hn) fun st2 ag => ?_) rfl k
  have hst := ag.H rfl
  simp only at hst
  have h1 := op_callR (X := X) (st := st2) (dst := some d) (ty := ty) (pos := pos) (af := af) (g := none) (tys := tys) (args := args) (f := f) (ms := ms) (post := fun r' h' => r' = r ∧ h' = H) (by rw [ag.evMs (fun x hx => by simp [Op.operands, Call.operands]; exact .inr hx), evMs_eq]; exact ha) (by rw [hst]; exact h)
  intro a σ lam hi
  have h2 := h1 a σ lam hi
  have hp : ∀ v s, (∃ r0 h0, v = V.m r0 ∧ (r0 = r ∧ h0 = H) ∧ s = (⟨st2.sl, st2.bx, h0⟩ : St)) → eqp (.m r) st2 v s := by rintro v s ⟨r0, h0, rfl, ⟨rfl, rfl⟩, rfl⟩; exact ⟨rfl, by rw [← hst]⟩
  unfold OpRun at h2 ⊢
  generalize (execOp a.eval _).run X.P σ.w = z at *
  cases z with
  | ok y w' =>
    cases y <;> simp only at h2 ⊢ <;> first
      | (obtain ⟨v, s, σ', l', h1, h2⟩ := h2; exact ⟨v, s, σ', l', hp _ _ h1, h2⟩)
      | exact h2.mono fun e w'' ⟨u, he, v, s, σ', l', h1, h2⟩ => ⟨u, he, v, s, σ', l', hp _ _ h1, h2⟩
      | exact h2
  | halt y w' => exact h2
end rules
end Go.Mt

set_option linter.unusedVariables false
namespace Go.Mt

def bytesO : List (List D) → Option (List Int)
  | [] => some []
  | [.int .u8 n] :: r => match bytesO r with
    | some ns => some (n :: ns)
    | none => none
  | _ => none
theorem bytesO_eq : ∀ {rows : List (List D)} {ns : List Int}, bytesO rows = some ns → rows = ns.map fun n => [.int .u8 n]
  | [], ns, h => by simp [bytesO] at h; subst h; rfl
  | r :: rs, ns, h => by
    unfold bytesO at h
    split at h
    · rename_i e; cases e
    · rename_i n r' e
      injection e with e1 e2; subst e1; subst e2
      split at h
      · rename_i ns' hn
        injection h with h; subst h
        simp [bytesO_eq hn]
      · cases h
    · cases h

section ops
variable {X : Ctx} {st : St} {dst : Option Nat} {ty : Nat} {pos : String} {af : Array Edge} {g : Option (Nat × Bool)}
theorem op_b2s {s t e : Nat} {x : Operand} {rows : List (List D)} {ns : List Int} [hs : TySlice X.P s e] [he : TyInt X.P e .u8] [ht : TyStr X.P t] (hx : st.ev x = some (.m (.d (.sl rows)))) (hb : bytesO rows = some ns) :
    OpT X ⟨dst, .convert s t x, ty, pos, af, g⟩ st (eqp (.m (.d (.str (strOfNums ns)))) st) := by
  have := bytesO_eq hb
  subst this
  refine OpT.quiet fun a σ lam hi => ?_
  have h := hi.evd hx
  generalize hu : a.eval x = u at h
  refine ⟨.string (strOfNums ns), ?_, .m (.d (.str _))⟩
  generalize hr : (ns.map fun n => [D.int .u8 n]) = rows at h
  cases h with
  | slnil ad =>
    have : ns = [] := by simpa using hr
    subst this
    cases ad with
    | none =>
      have := run_convert_bytes_nil (P := X.P) σ.w s e hs.u he.u 0 0 t ht.u
      simp [execOp, hu, this, strOfNums]
      rfl
    | some ad =>
      have h1 : (loadCells ad 0).run X.P σ.w = .ok #[] σ.w := by simp [loadCells, loadCellsFrom]
      simp only [execOp, hu, Sem.run_bind]
      rw [run_convert_bytes_string σ.w s t e (some ad) 0 0 hs.u he.u ht.u, run_bytesToString σ.w ad 0 0 [] (by simpa using h1)]
      simp [strOfNums, ByteArray.empty, ByteArray.emptyWithCapacity]
      rfl
  | sl rows b o cap ec val h0 hcap hmax hec hcell hflat hrep =>
    subst hr
    have hlen : (ns.map fun n => [D.int .u8 n]).length = ns.length := by simp
    have hec1 : ec = 1 := by
      cases ns with
      | nil => simp at h0
      | cons n ns => rw [← hec [.int .u8 n] (by simp)]; rfl
    subst hec1
    have := run_convert_bytes_arg (P := X.P) σ.w s e hs.u he.u b o ns.length cap ns rfl (by
      intro i hi
      have h1 := (hcell i 0 (by simpa using hi) (by omega)).1
      have h2 := hrep i 0 [.int .u8 ns[i]] (.int .u8 ns[i]) (by simp [hi]) rfl
      have : val i 0 = .int .u8 ns[i] := by generalize val i 0 = q at h2; cases h2; rfl
      rw [this] at h1
      simp at h1
      simpa [hi] using h1) t ht.u
    simp [execOp, hu, this]
end ops

section rules
variable {X : Ctx} {ops : Array Oper} {rest : List Oper} {post : St → Prop} {postF : List Ef → St → Prop} {sl : List (Nat × V)} {bx : List (Nat × List M)} {H : Hp} {d ty : Nat} {pos : String} {af : Array Edge}
theorem t_b2s {s t e : Nat} {x : Operand} {rows : List (List D)} {ns : List Int} [hs : TySlice X.P s e] [he : TyInt X.P e .u8] [ht : TyStr X.P t] (hn : Nat.blt d X.n = true) (hx : evs sl x = some (.m (.d (.sl rows)))) (hb : bytesO rows = some ns)
    (k : TL X ops rest ⟨(d, .m (.d (.str (strOfNums ns)))) :: sl, bx, H⟩ post) : TL X ops (⟨some d, .convert s t x, ty, pos, af, none⟩ :: rest) ⟨sl, bx, H⟩ post :=
  TL.o1 rfl rfl hn (op_b2s hx hb) k
theorem f_b2s {s t e : Nat} {x : Operand} {rows : List (List D)} {ns : List Int} [hs : TySlice X.P s e] [he : TyInt X.P e .u8] [ht : TyStr X.P t] (hn : Nat.blt d X.n = true) (hx : evs sl x = some (.m (.d (.sl rows)))) (hb : bytesO rows = some ns)
    (k : TF X ops rest ⟨(d, .m (.d (.str (strOfNums ns)))) :: sl, bx, H⟩ fun ees zz => postF (⟨some d, .m (.d (.str (strOfNums ns))), [], [], none, false, none⟩ :: ees) zz) : TF X ops (⟨some d, .convert s t x, ty, pos, af, none⟩ :: rest) ⟨sl, bx, H⟩ postF :=
  TF.cons (e := ⟨some d, .m (.d (.str (strOfNums ns))), [], [], none, false, none⟩) (StepF.quiet rfl rfl (blt_lt hn) fun st2 ag => op_b2s ((ag.ev (x := x) (by simp [Op.operands])).trans hx) hb) rfl k
theorem t_neg {x : Operand} {xt : Nat} {kk : IntKind} {n : Int} (hn : Nat.blt d X.n = true) (hx : evs sl x = some (.m (.d (.int kk n)))) (k : TL X ops rest ⟨(d, .m (.d (.int kk (kk.wrap (-n))))) :: sl, bx, H⟩ post) :
    TL X ops (⟨some d, .unOp .neg xt x, ty, pos, af, none⟩ :: rest) ⟨sl, bx, H⟩ post :=
  TL.o1 rfl rfl hn (op_neg hx) k

/-- a value of the heap, read as data -/
def viewV (H : Hp) : M → Option D
  | .d x => some x
  | .rsl i ver len => match H[i]? with
    | some (.row true ec v cs) => bif (Nat.beq v ver && Nat.blt 0 len) then (match chunk ec len cs with
      | some rows => some (.sl rows)
      | none => none) else none
    | _ => none
  | _ => none

theorem RM.view {σ : Sg} {Oo : Nat → Nat → Prop} (hi : HInv σ Oo) {m : M} {d : D} {v : Value} (h : RM σ m v) (hv : viewV σ.H m = some d) : RM σ (.d d) v := by
  cases h with
  | d h => simp [viewV] at hv; subst hv; exact .d h
  | rsl i ver len ad cap hle hcur =>
    simp only [viewV] at hv
    split at hv
    · rename_i ec v cs hH'
      cases hb : (Nat.beq v ver && Nat.blt 0 len) with
      | false => simp [hb] at hv
      | true =>
        simp only [hb, cond_true] at hv
        simp only [Bool.and_eq_true] at hb
        have e0 := Nat.eq_of_beq_eq_true hb.1
        subst e0
        have h0 := blt_lt hb.2
        split at hv
        · rename_i rows hc
          injection hv with hv; subst hv
          obtain ⟨e1, e2, arr, T, e3, e4⟩ := hcur true ec cs hH'
          subst e1
          obtain ⟨hec, arr1, T1, cap1, n1, h3, h4, h5, ⟨h6, hmax⟩, h7⟩ := hi.obj i _ hH'
          rw [e3] at h3; injection h3 with h3; injection h3 with e5 e6; subst e5; subst e6
          have hcap : cap1 = cap := Nat.eq_of_mul_eq_mul_right hec (by rw [← h4, ← e4])
          subst hcap
          have hnl : n1 = len := Nat.eq_of_mul_eq_mul_right hec (by rw [← h6, ← e2])
          subst hnl
          obtain ⟨k1, k2, k3⟩ := chunk_spec hc e2
          have hne : rows ≠ [] := by rintro rfl; simp at k1; omega
          have hnotown : ∀ o, o < cs.length → ¬ σ.O (σ.l i) o := by
            intro o ho hO
            rcases (hi.own _ _).1 hO with h8 | ⟨k, ob, h8, h9, h10⟩
            · exact hi.sep i _ hH' trivial o h8
            · have := hi.inj k i ob _ h8 hH' (Ob.live_of_owns h10) trivial h9
              subst this
              rw [hH'] at h8; injection h8 with h8; subst h8
              simp only [Ob.owns] at h10
              rcases h10 with h10 | h10
              · cases h10
              · omega
          have hbound : ∀ i j, i < rows.length → j < ec → i * ec + j < cs.length := by
            intro i j hi hj
            rw [e2, ← k1]
            calc i * ec + j < i * ec + ec := by omega
              _ = (i + 1) * ec := by rw [Nat.succ_mul]
              _ ≤ rows.length * ec := Nat.mul_le_mul_right _ hi
          have hsz : cs.length ≤ arr.size := by rw [e2, e4]; exact Nat.mul_le_mul_right _ h5
          have hcellsD : ∀ i j, i < rows.length → j < ec → ∃ r d, rows[i]? = some r ∧ r[j]? = some d ∧ cs[i * ec + j]? = some (.d d) := by
            intro i j hi hj
            have hr : rows[i].length = ec := k2 _ (List.getElem_mem hi)
            have g1 : rows[i]? = some rows[i] := by simp [hi]
            have g2 : rows[i][j]? = some ((rows[i])[j]'(by rw [hr]; exact hj)) := by simp [hr, hj]
            exact ⟨rows[i], _, g1, g2, k3 i j _ _ g1 g2⟩
          have := Rep.sl (O := σ.O) (w := σ.w) rows (σ.l i) 0 cap1 ec (fun i j => arr.getD (i * ec + j) Go.undef) hne (by omega) (by omega) k2 ?_ ?_ ?_
          · rw [k1] at this; exact .d this
          · intro i' j hi' hj
            rw [Nat.zero_add]
            refine ⟨?_, hnotown _ (hbound i' j hi' hj)⟩
            have := hbound i' j hi' hj
            simp [cellv, World.cell?, e3, show i' * ec + j < arr.size by omega]
          · intro i' j hi' hj
            obtain ⟨r, d, _, _, hcd⟩ := hcellsD i' j hi' hj
            have hlt := hbound i' j hi' hj
            exact (h7 _ _ (arr.getD (i' * ec + j) Go.undef) hcd (by simp [show i' * ec + j < arr.size by omega])).2
          · intro i' j r d hr hd
            have hcd := k3 i' j r d hr hd
            have hlt : i' * ec + j < cs.length := by rcases Nat.lt_or_ge (i' * ec + j) cs.length with h | h; exact h; simp [List.getElem?_eq_none h] at hcd
            have := (h7 _ _ (arr.getD (i' * ec + j) Go.undef) hcd (by simp [show i' * ec + j < arr.size by omega])).1
            cases this with
            | d h => exact h
        · cases hv
    · cases hv
  | _ => simp [viewV] at hv

/-- all cells, read as data -/
def viewAll (H : Hp) : List M → Option (List M)
  | [] => some []
  | m :: r => match viewV H m, viewAll H r with
    | some d, some ms => some (.d d :: ms)
    | _, _ => none
theorem RMc.view {σ : Sg} {Oo : Nat → Nat → Prop} (hi : HInv σ Oo) {cs cs' : List M} {vs : Array Value} (h : RMc σ cs vs) (hv : viewAll σ.H cs = some cs') : RMc σ cs' vs := by
  have key : ∀ (cs cs' : List M), viewAll σ.H cs = some cs' → cs'.length = cs.length ∧ ∀ (i : Nat) m', cs'[i]? = some m' → ∃ m d, cs[i]? = some m ∧ viewV σ.H m = some d ∧ m' = .d d := by
    intro cs
    induction cs with
    | nil => intro cs' h; simp [viewAll] at h; subst h; simp
    | cons m r ih =>
      intro cs' h
      simp only [viewAll] at h
      split at h
      · rename_i d ms h1 h2
        injection h with h; subst h
        obtain ⟨h3, h4⟩ := ih ms h2
        refine ⟨by simp [h3], fun i m' hm => ?_⟩
        cases i with
        | zero => simp at hm; subst hm; exact ⟨m, d, by simp, h1, rfl⟩
        | succ i => simp at hm; obtain ⟨a, b, c, e, f⟩ := h4 i m' hm; exact ⟨a, b, by simpa using c, e, f⟩
      · cases h
  obtain ⟨h1, h2⟩ := key cs cs' hv
  refine ⟨by rw [h.1, h1], fun i m' v hm hvv => ?_⟩
  obtain ⟨m, d, h3, h4, rfl⟩ := h2 i m' hm
  exact ⟨(h.2 i m v h3 hvv).1.view hi h4, (h.2 i m v h3 hvv).2⟩

/-- a variable of the frame's own, all of it read as data -/
theorem Inv.viewBox {a : Act} {w : World} {t : Nat} {cs cs' : List M} (h : Inv X ⟨sl, bx, H⟩ a w) (hb : get bx t = some cs) (hv : viewAll H cs = some cs') : Inv X ⟨sl, (t, cs') :: bx, H⟩ a w := by
  obtain ⟨σ, lam, rfl, hi⟩ := h
  have hH : σ.H = H := hi.hH
  obtain ⟨arr, T, h1, h2⟩ := hi.box t cs hb
  have hdom : ∀ u ds, get ((t, cs') :: bx) u = some ds → ∃ ds', get bx u = some ds' := by
    intro u ds h1
    rcases get_cons_eq h1 with ⟨rfl, rfl⟩ | ⟨h3, h4⟩
    · exact ⟨cs, hb⟩
    · exact ⟨ds, h4⟩
  have hoof : ∀ b o, Oof X.Oout lam ((t, cs') :: bx) b o ↔ Oof X.Oout lam bx b o := by
    intro b o
    constructor
    · rintro (h1 | ⟨u, ds, h1, h2⟩)
      · exact .inl h1
      · obtain ⟨ds', h3⟩ := hdom u ds h1; exact .inr ⟨u, ds', h3, h2⟩
    · rintro (h1 | ⟨u, ds, h1, h2⟩)
      · exact .inl h1
      · by_cases e : t = u
        · subst e; exact .inr ⟨t, cs', by simp [get_cons], h2⟩
        · exact .inr ⟨u, ds, by simp [get_cons, e, h1], h2⟩
  refine ⟨σ, lam, rfl, hi.hH, hi.defers, hi.size, hi.slot, ?_, ?_, ?_, ?_, ?_, hi.mono, hi.blk⟩
  · intro u ds h3
    rcases get_cons_eq h3 with ⟨rfl, rfl⟩ | ⟨_, h4⟩
    · exact ⟨arr, T, h1, h2.view hi.hinv (by rw [hH]; exact hv)⟩
    · exact hi.box u ds h4
  · intro u v ds es h3 h4 h5
    obtain ⟨_, h6⟩ := hdom u ds h3
    obtain ⟨_, h7⟩ := hdom v es h4
    exact hi.binj u v _ _ h6 h7 h5
  · intro u ds h3; obtain ⟨_, h6⟩ := hdom u ds h3; exact hi.bsep u _ h6
  · intro u ds h3; obtain ⟨_, h6⟩ := hdom u ds h3; exact hi.bnew u _ h6
  · exact ⟨hi.hinv.obj, hi.hinv.inj, fun b o => by rw [hoof]; exact hi.hinv.own b o, fun i ob h1 h2 o h3 => hi.hinv.sep i ob h1 h2 o ((hoof _ _).1 h3), fun b o h3 => hi.hinv.old b o ((hoof _ _).1 h3)⟩
theorem TL.viewBox (t : Nat) {l : List Oper} {cs cs' : List M} (hb : get bx t = some cs) (hv : viewAll H cs = some cs') (k : TL X ops l ⟨sl, (t, cs') :: bx, H⟩ post) : TL X ops l ⟨sl, bx, H⟩ post :=
  fun a w hi => k a w (hi.viewBox hb hv)
theorem TC.viewBox (t : Nat) {c : Code} {q : Exit → St → Prop} {cs cs' : List M} (hb : get bx t = some cs) (hv : viewAll H cs = some cs') (k : TC X c ⟨sl, (t, cs') :: bx, H⟩ q) : TC X c ⟨sl, bx, H⟩ q :=
  fun a w hi => k a w (hi.viewBox hb hv)
theorem Inv.viewSlot {a : Act} {w : World} {t : Nat} {m : M} {x : D} (h : Inv X ⟨sl, bx, H⟩ a w) (hb : get sl t = some (.m m)) (hv : viewV H m = some x) : Inv X ⟨(t, .m (.d x)) :: sl, bx, H⟩ a w := by
  obtain ⟨σ, lam, rfl, hi⟩ := h
  have hH : σ.H = H := hi.hH
  refine ⟨σ, lam, rfl, hi.hH, hi.defers, hi.size, ?_, hi.box, hi.binj, hi.bsep, hi.bnew, hi.hinv, hi.mono, hi.blk⟩
  intro u v h3
  rcases get_cons_eq h3 with ⟨rfl, rfl⟩ | ⟨_, h4⟩
  · obtain ⟨z, h5, h6⟩ := hi.slot u _ hb
    cases h6 with
    | m h6 => exact ⟨z, h5, .m (h6.view hi.hinv (by rw [hH]; exact hv))⟩
  · exact hi.slot u v h4
theorem TL.viewSlot (t : Nat) {l : List Oper} {m : M} {x : D} (hb : get sl t = some (.m m)) (hv : viewV H m = some x) (k : TL X ops l ⟨(t, .m (.d x)) :: sl, bx, H⟩ post) : TL X ops l ⟨sl, bx, H⟩ post :=
  fun a w hi => k a w (hi.viewSlot hb hv)
theorem TC.viewSlot (t : Nat) {c : Code} {q : Exit → St → Prop} {m : M} {x : D} (hb : get sl t = some (.m m)) (hv : viewV H m = some x) (k : TC X c ⟨(t, .m (.d x)) :: sl, bx, H⟩ q) : TC X c ⟨sl, bx, H⟩ q :=
  fun a w hi => k a w (hi.viewSlot hb hv)
end rules

/-- an accumulator: nothing yet, or a row of the heap that is only appended to -/
def Acc (n i : Nat) (rs : List (List D)) (m : M) (H : Hp) : Prop :=
  (rs = [] ∧ m = .d (.sl [])) ∨ (rs ≠ [] ∧ ∃ ver, m = .rsl i ver rs.length ∧ H[i]? = some (.row true n ver (flatM rs)))
theorem Acc.view {n i : Nat} {rs : List (List D)} {m : M} {H : Hp} (h : Acc n i rs m H) (hl : ∀ r ∈ rs, r.length = n) : viewV H m = some (.sl rs) := by
  rcases h with ⟨rfl, rfl⟩ | ⟨h0, ver, rfl, h1⟩
  · rfl
  · have hp : Nat.blt 0 rs.length = true := by rw [Nat.blt_eq]; cases rs; exact absurd rfl h0; simp
    have hc : chunk n rs.length (flatM rs) = some rs := chunk_flat hl
    simp [viewV, h1, hp, hc]
end Go.Mt

set_option linter.unusedVariables false
namespace Go.Mt

class TyBoo (P : Program) (t : Nat) : Prop where
  u : P.underlying t = some .bool

theorem equal_bool {P : Program} {w : World} {t : Nat} (h : P.underlying t = some .bool) (a b : Bool) : (Op.equal t (.bool a) (.bool b)).run P w = .ok (a == b) w := by
  have hund : (underlying t).run P w = .ok .bool w := by simp [underlying, program, Sem.run, h]
  simp only [Op.equal, Op.maxDepth]
  rw [Op.equalIn]
  simp [hund]

section ops
variable {X : Ctx} {st : St} {dst : Option Nat} {ty : Nat} {pos : String} {af : Array Edge} {g : Option (Nat × Bool)}
theorem op_beq {x y : Operand} {xt yt : Nat} {b c : Bool} [ht : TyBoo X.P xt] (hx : st.ev x = some (.m (.d (.bool b)))) (hy : st.ev y = some (.m (.d (.bool c)))) :
    OpT X ⟨dst, .binOp .eql xt x y yt, ty, pos, af, g⟩ st (eqp (.m (.d (.bool (b == c)))) st) := by
  refine OpT.quiet fun a σ lam hi => ?_
  exact ⟨_, by simp [execOp, hi.evbool hx, hi.evbool hy, eqGuard, binOp, equal_bool ht.u], .m (.d (.bool _))⟩
theorem op_bne {x y : Operand} {xt yt : Nat} {b c : Bool} [ht : TyBoo X.P xt] (hx : st.ev x = some (.m (.d (.bool b)))) (hy : st.ev y = some (.m (.d (.bool c)))) :
    OpT X ⟨dst, .binOp .neq xt x y yt, ty, pos, af, g⟩ st (eqp (.m (.d (.bool (!(b == c))))) st) := by
  refine OpT.quiet fun a σ lam hi => ?_
  exact ⟨_, by simp [execOp, hi.evbool hx, hi.evbool hy, eqGuard, binOp, equal_bool ht.u], .m (.d (.bool _))⟩
end ops
section rules
variable {X : Ctx} {ops : Array Oper} {rest : List Oper} {post : St → Prop} {postF : List Ef → St → Prop} {sl : List (Nat × V)} {bx : List (Nat × List M)} {H : Hp} {d ty : Nat} {pos : String} {af : Array Edge}
theorem t_beq {x y : Operand} {xt yt : Nat} {b c : Bool} [ht : TyBoo X.P xt] (hn : Nat.blt d X.n = true) (hx : evs sl x = some (.m (.d (.bool b)))) (hy : evs sl y = some (.m (.d (.bool c))))
    (k : TL X ops rest ⟨(d, .m (.d (.bool (b == c)))) :: sl, bx, H⟩ post) : TL X ops (⟨some d, .binOp .eql xt x y yt, ty, pos, af, none⟩ :: rest) ⟨sl, bx, H⟩ post :=
  TL.o1 rfl rfl hn (op_beq hx hy) k
theorem t_bne {x y : Operand} {xt yt : Nat} {b c : Bool} [ht : TyBoo X.P xt] (hn : Nat.blt d X.n = true) (hx : evs sl x = some (.m (.d (.bool b)))) (hy : evs sl y = some (.m (.d (.bool c))))
    (k : TL X ops rest ⟨(d, .m (.d (.bool (!(b == c))))) :: sl, bx, H⟩ post) : TL X ops (⟨some d, .binOp .neq xt x y yt, ty, pos, af, none⟩ :: rest) ⟨sl, bx, H⟩ post :=
  TL.o1 rfl rfl hn (op_bne hx hy) k
theorem f_beq {x y : Operand} {xt yt : Nat} {b c : Bool} [ht : TyBoo X.P xt] (hn : Nat.blt d X.n = true) (hx : evs sl x = some (.m (.d (.bool b)))) (hy : evs sl y = some (.m (.d (.bool c))))
    (k : TF X ops rest ⟨(d, .m (.d (.bool (b == c)))) :: sl, bx, H⟩ fun ees zz => postF (⟨some d, .m (.d (.bool (b == c))), [], [], none, false, none⟩ :: ees) zz) : TF X ops (⟨some d, .binOp .eql xt x y yt, ty, pos, af, none⟩ :: rest) ⟨sl, bx, H⟩ postF :=
  TF.cons (e := ⟨some d, .m (.d (.bool (b == c))), [], [], none, false, none⟩) (StepF.quiet rfl rfl (blt_lt hn) fun st2 ag => op_beq ((ag.ev (x := x) (by simp [Op.operands])).trans hx) ((ag.ev (x := y) (by simp [Op.operands])).trans hy)) rfl k
theorem f_bne {x y : Operand} {xt yt : Nat} {b c : Bool} [ht : TyBoo X.P xt] (hn : Nat.blt d X.n = true) (hx : evs sl x = some (.m (.d (.bool b)))) (hy : evs sl y = some (.m (.d (.bool c))))
    (k : TF X ops rest ⟨(d, .m (.d (.bool (!(b == c))))) :: sl, bx, H⟩ fun ees zz => postF (⟨some d, .m (.d (.bool (!(b == c)))), [], [], none, false, none⟩ :: ees) zz) : TF X ops (⟨some d, .binOp .neq xt x y yt, ty, pos, af, none⟩ :: rest) ⟨sl, bx, H⟩ postF :=
  TF.cons (e := ⟨some d, .m (.d (.bool (!(b == c)))), [], [], none, false, none⟩) (StepF.quiet rfl rfl (blt_lt hn) fun st2 ag => op_bne ((ag.ev (x := x) (by simp [Op.operands])).trans hx) ((ag.ev (x := y) (by simp [Op.operands])).trans hy)) rfl k
end rules
end Go.Mt
