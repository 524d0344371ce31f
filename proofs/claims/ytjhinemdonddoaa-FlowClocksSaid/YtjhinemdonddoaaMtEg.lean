import Derived.Test.YtjhinemdonddoaaMtEf
set_option linter.unusedVariables false
set_option linter.unusedSimpArgs false
namespace Go.Mt

theorem listEqB_eq : ∀ (a b : List UInt8), listEqB a b = decide (a = b)
  | [], [] => by simp [listEqB]
  | [], _ :: _ => by simp [listEqB]
  | _ :: _, [] => by simp [listEqB]
  | a :: r, b :: s => by
    unfold listEqB
    by_cases h : a = b
    · subst h; simp [listEqB_eq r s]
    · have : Nat.beq a.toNat b.toNat = false := by
        rw [← Bool.not_eq_true]; intro e; exact h (UInt8.toNat_inj.1 (Nat.eq_of_beq_eq_true e))
      rw [this]; simp [h]
theorem strEqB_eq (s u : ByteArray) : strEqB s u = decide (s = u) := by
  unfold strEqB
  rw [listEqB_eq]
  cases s with
  | mk a => cases u with
    | mk b => cases a; cases b; simp
theorem catB_eq (s u : ByteArray) : catB s u = s ++ u := by
  unfold catB
  apply ByteArray.ext
  simp [ByteArray.data_append]
theorem lookE_eq (k : ByteArray) : ∀ es, lookE k es = lookM k es
  | [] => rfl
  | (d, m) :: r => by cases d <;> simp [lookE, lookM, strEqB_eq, lookE_eq k r]
theorem updE_eq (k : ByteArray) (v : M) : ∀ es, updE k v es = updM k v es
  | [] => rfl
  | (d, m) :: r => by cases d <;> simp [updE, updM, strEqB_eq, updE_eq k v r]

section ops
variable {X : Ctx} {st : St} {dst : Option Nat} {ty : Nat} {pos : String} {af : Array Edge} {g : Option (Nat × Bool)} {pn : Nat} {H' : Hp}

theorem op_lookupNil {T e : Nat} {x y : Operand} {k : ByteArray} {z : D} {ok : Bool} [ht : TyMapS X.P T e] [hz : TyZ X.P e z] (hx : st.ev x = some (.m (.d .nilm))) (hy : st.ev y = some (.m (.d (.str k)))) :
    OpT X ⟨dst, .lookup T x y ok, ty, pos, af, g⟩ st (eqp (bif ok then .m (.tup [.d z, .d (.bool false)]) else .m (.d z)) st) := by
  refine OpT.quiet fun a σ lam hi => ?_
  have h := hi.evd hx
  have h2 := hi.evstr hy
  obtain ⟨kt, u1, u2⟩ := ht.u
  obtain ⟨zv, hz1, hz2⟩ := (tyZero_of hz.zero).run
  generalize hu : a.eval x = u at h
  cases h with
  | nilm =>
    have hck : ∀ b, (Instr.checkKey b 10000 kt (.string k)).run X.P σ.w = .ok () σ.w := fun b => checkKey_str (n := 9999) u2
    cases ok with
    | true =>
      refine ⟨.tuple #[zv, .bool false], ?_, .m (.tup _ _ rfl ?_)⟩
      · simp only [execOp, hu, h2, Instr.lookup]
        simp [underlying, program, Sem.run, u1, hck, Instr.findKey, u2, hz1, Instr.findNow]
      · intro n m v hm hv
        match n with
        | 0 => simp at hm hv; subst hm; subst hv; exact .d (dOfVal_rep hz2)
        | 1 => simp at hm hv; subst hm; subst hv; exact .d (.bool _)
        | n + 2 => simp at hm
    | false =>
      refine ⟨zv, ?_, .m (.d (dOfVal_rep hz2))⟩
      simp only [execOp, hu, h2, Instr.lookup]
      simp [underlying, program, Sem.run, u1, hck, Instr.findKey, u2, hz1, Instr.findNow]

theorem op_index {T : Nat} {x y : Operand} {s : ByteArray} {k : IntKind} {i : Nat} {b : UInt8} [ht : TyStr X.P T] (hx : st.ev x = some (.m (.d (.str s)))) (hy : st.ev y = some (.m (.d (.int k (.ofNat i))))) (hb : s.data.toList[i]? = some b) :
    OpT X ⟨dst, .index T x y, ty, pos, af, g⟩ st (eqp (.m (.d (.int .u8 b.toNat))) st) := by
  refine OpT.quiet fun a σ lam hi => ?_
  have h1 := hi.evstr hx
  have h2 := hi.evint hy
  have hb' : s[i]? = some b := by
    have hlt : i < s.data.toList.length := by rcases Nat.lt_or_ge i s.data.toList.length with h | h; exact h; simp [List.getElem?_eq_none h] at hb
    have hs : i < s.size := by have h9 := hlt; rw [Array.length_toList] at h9; exact h9
    rw [getElem?_pos s i hs]
    rw [List.getElem?_eq_getElem hlt] at hb
    injection hb with hb
    rw [← hb]
    rfl
  refine ⟨.int .u8 b.toNat, ?_, .m (.d (.int _ _))⟩
  have hund : (underlying T).run X.P σ.w = .ok .string σ.w := by simp [underlying, program, Sem.run, ht.u]
  have hif : (if (0 : Int) ≤ Int.ofNat i then s[(Int.ofNat i).toNat]? else none) = some b := by
    have h0 : (0 : Int) ≤ Int.ofNat i := Int.natCast_nonneg i
    rw [if_pos h0]; exact hb'
  simp only [execOp, h1, h2, Instr.index, asIntOf, Sem.run_bind, Sem.run_pure, Result.andThen_ok, hund, hif]

/-- what a pointer, a map or a function is against nil -/
theorem nil_ptr {σ : Sg} {lam : Nat → Nat} {v : V} {u : Value} {z : Bool} (h : RV σ lam v u) (hn : nilOf 1 v = some z) : ∃ p, u = .pointer p ∧ p.isNone = z := by
  unfold nilOf at hn
  cases h with
  | loc t off => simp at hn; subst hn; exact ⟨_, rfl, rfl⟩
  | m h => cases h with
    | ref i off cs h => simp at hn; subst hn; exact ⟨_, rfl, rfl⟩
    | rref i ver off b h1 h2 => simp at hn; subst hn; exact ⟨_, rfl, rfl⟩
    | d h => cases h with
      | pim cs off b o val h1 h2 h3 => simp at hn; subst hn; exact ⟨_, rfl, rfl⟩
      | nilp => simp at hn; subst hn; exact ⟨_, rfl, rfl⟩
      | _ => simp at hn
    | _ => simp at hn
theorem nil_map {σ : Sg} {lam : Nat → Nat} {v : V} {u : Value} {z : Bool} (h : RV σ lam v u) (hn : nilOf 2 v = some z) : ∃ p, u = .map p ∧ p.isNone = z := by
  unfold nilOf at hn
  cases h with
  | loc t off => simp at hn
  | m h => cases h with
    | mp i es h => simp at hn; subst hn; exact ⟨_, rfl, rfl⟩
    | d h => cases h with
      | nilm => simp at hn; subst hn; exact ⟨_, rfl, rfl⟩
      | _ => simp at hn
    | _ => simp at hn
theorem nil_fun {σ : Sg} {lam : Nat → Nat} {v : V} {u : Value} {z : Bool} (h : RV σ lam v u) (hn : nilOf 3 v = some z) : (z = true ∧ u = .nilFunc) ∨ (z = false ∧ ∃ f a b, u = .func f a b) := by
  unfold nilOf at hn
  cases h with
  | loc t off => simp at hn
  | m h => cases h with
    | fn f cs vs hl hh => simp at hn; subst hn; exact .inr ⟨rfl, _, _, _, rfl⟩
    | d h => cases h with
      | nilf => simp at hn; subst hn; exact .inl ⟨rfl, rfl⟩
      | fn f cs vs hl hh => simp at hn; subst hn; exact .inr ⟨rfl, _, _, _, rfl⟩
      | _ => simp at hn
    | _ => simp at hn

theorem equal_ptr {P : Program} {w : World} {t e : Nat} (h : P.underlying t = some (.pointer e)) (p : Option Addr) : (Op.equal t (.pointer p) (.pointer none)).run P w = .ok p.isNone w := by
  have hund : (underlying t).run P w = .ok (.pointer e) w := by simp [underlying, program, Sem.run, h]
  simp only [Op.equal, Op.maxDepth]
  rw [Op.equalIn]
  cases p <;> simp [hund]
theorem equal_map {P : Program} {w : World} {t e e2 : Nat} (h : P.underlying t = some (.map e e2)) (p : Option Nat) : (Op.equal t (.map p) (.map none)).run P w = .ok p.isNone w := by
  have hund : (underlying t).run P w = .ok (.map e e2) w := by simp [underlying, program, Sem.run, h]
  simp only [Op.equal, Op.maxDepth]
  rw [Op.equalIn]
  cases p <;> simp [hund]
theorem equal_fun {P : Program} {w : World} {t : Nat} {e1 e2 e3} (h : P.underlying t = some (.func e1 e2 e3)) (x : Value) (hx : x = .nilFunc ∨ ∃ f c d, x = .func f c d) : (Op.equal t x .nilFunc).run P w = .ok (match x with | .nilFunc => true | _ => false) w := by
  have hund : (underlying t).run P w = .ok (.func e1 e2 e3) w := by simp [underlying, program, Sem.run, h]
  simp only [Op.equal, Op.maxDepth]
  rw [Op.equalIn]
  rcases hx with rfl | ⟨f, c, d, rfl⟩ <;> simp [hund]

theorem eq_nil {P : Program} {w : World} {xt k : Nat} {σ : Sg} {lam : Nat → Nat} {v u : V} {a b : Value} {z : Bool} (hk : tyRef P xt = k) (hk0 : k = 1 ∨ k = 2 ∨ k = 3) (ha : RV σ lam v a) (hb : RV σ lam u b) (h1 : nilOf k v = some z) (h2 : nilOf k u = some true) :
    (Op.equal xt a b).run P w = .ok z w ∧ (∀ op x y, (eqGuard op xt x y a b).run P w = .ok () w) ∧ (binOp .eql xt a b).run P w = .ok (.bool z) w ∧ (binOp .neq xt a b).run P w = .ok (.bool (!z)) w := by
  have key : (Op.equal xt a b).run P w = .ok z w → (∃ p q, a = .pointer p ∧ b = .pointer q) ∨ (∃ p q, a = .map p ∧ b = .map q) ∨ ((a = .nilFunc ∨ ∃ f c d, a = .func f c d) ∧ b = .nilFunc) →
      (Op.equal xt a b).run P w = .ok z w ∧ (∀ op x y, (eqGuard op xt x y a b).run P w = .ok () w) ∧ (binOp .eql xt a b).run P w = .ok (.bool z) w ∧ (binOp .neq xt a b).run P w = .ok (.bool (!z)) w := by
    rintro he (⟨p, q, rfl, rfl⟩ | ⟨p, q, rfl, rfl⟩ | ⟨rfl | ⟨f, c, d, rfl⟩, rfl⟩) <;>
      exact ⟨he, fun op x y => by cases op <;> simp [eqGuard], by simp [binOp, he], by simp [binOp, he]⟩
  rcases hk0 with rfl | rfl | rfl
  · obtain ⟨p, rfl, hp⟩ := nil_ptr ha h1
    obtain ⟨q, rfl, hq⟩ := nil_ptr hb h2
    have hu : ∃ e, P.underlying xt = some (.pointer e) := by
      unfold tyRef at hk
      split at hk <;> first | exact ⟨_, by assumption⟩ | cases hk
    obtain ⟨e, hu⟩ := hu
    refine key ?_ (.inl ⟨p, q, rfl, rfl⟩)
    have : q = none := by simpa using hq
    subst this
    rw [equal_ptr hu, hp]
  · obtain ⟨p, rfl, hp⟩ := nil_map ha h1
    obtain ⟨q, rfl, hq⟩ := nil_map hb h2
    have hu : ∃ e e2, P.underlying xt = some (.map e e2) := by
      unfold tyRef at hk
      split at hk <;> first | exact ⟨_, _, by assumption⟩ | cases hk
    obtain ⟨e, e2, hu⟩ := hu
    refine key ?_ (.inr (.inl ⟨p, q, rfl, rfl⟩))
    have : q = none := by simpa using hq
    subst this
    rw [equal_map hu, hp]
  · have hu : ∃ e e2 e3, P.underlying xt = some (.func e e2 e3) := by
      unfold tyRef at hk
      split at hk <;> first | exact ⟨_, _, _, by assumption⟩ | cases hk
    obtain ⟨e1, e2, e3, hu⟩ := hu
    rcases nil_fun hb h2 with ⟨_, rfl⟩ | ⟨h, _⟩
    · rcases nil_fun ha h1 with ⟨rfl, rfl⟩ | ⟨rfl, f, c, d, rfl⟩
      · exact key (by rw [equal_fun hu _ (.inl rfl)]) (.inr (.inr ⟨.inl rfl, rfl⟩))
      · exact key (by rw [equal_fun hu _ (.inr ⟨f, c, d, rfl⟩)]) (.inr (.inr ⟨.inr ⟨f, c, d, rfl⟩, rfl⟩))
    · cases h

theorem op_nil {xt yt k : Nat} {x y : Operand} {v u : V} {z : Bool} {op : BinOp} (hop : op = .eql ∨ op = .neq) (hk : tyRef X.P xt = k) (hk0 : k = 1 ∨ k = 2 ∨ k = 3) (hx : st.ev x = some v) (hy : st.ev y = some u) (h1 : nilOf k v = some z) (h2 : nilOf k u = some true) :
    OpT X ⟨dst, .binOp op xt x y yt, ty, pos, af, g⟩ st (eqp (.m (.d (.bool (match op with | .eql => z | _ => !z)))) st) := by
  refine OpT.quiet fun a σ lam hi => ?_
  obtain ⟨h3, h4, h5, h6⟩ := eq_nil (w := σ.w) hk hk0 (hi.ev hx) (hi.ev hy) h1 h2
  rcases hop with rfl | rfl
  · exact ⟨.bool z, by simp [execOp, h4, h5], .m (.d (.bool z))⟩
  · exact ⟨.bool (!z), by simp [execOp, h4, h6], .m (.d (.bool (!z)))⟩

/-- the two bounds of a part, as they are evaluated -/
theorem bound_run {σ : Sg} {lam : Nat → Nat} {a : Act} (hi : FInv X σ lam st a) {o : Option Operand} {l : Option Nat} (h : bound st.ev o = some l) : (l = none ∧ o.map a.eval = none) ∨ ∃ n k, l = some n ∧ o.map a.eval = some (.int k (n : Int)) := by
  unfold bound at h
  cases o with
  | none => simp at h; subst h; exact .inl ⟨rfl, rfl⟩
  | some y =>
    simp only at h
    split at h
    · rename_i k i hy
      injection h with h; subst h
      right
      exact ⟨i, k, rfl, by simp [hi.evint hy]⟩
    · cases h

theorem op_sliceD {t e n : Nat} {x : Operand} {lo hi : Option Operand} {l h : Option Nat} {rows : List (List D)} [ht : TySlice X.P t e] [hs : TySz X.P e n] (hx : st.ev x = some (.m (.d (.sl rows)))) (hlo : bound st.ev lo = some l) (hhi : bound st.ev hi = some h)
    (hr : rows ≠ []) (h1 : l.getD 0 ≤ h.getD rows.length) (h2 : h.getD rows.length ≤ rows.length) (hln : ∀ r ∈ rows, r.length = n) :
    OpT X ⟨dst, .slice t x lo hi none, ty, pos, af, g⟩ st (eqp (.m (.d (match (rows.drop (l.getD 0)).take (h.getD rows.length - l.getD 0) with | [] => .slz | r => .sl r))) st) := by
  refine OpT.quiet fun a σ lam hi' => ?_
  have hv := hi'.evd hx
  have hb1 := bound_run hi' hlo
  have hb2 := bound_run hi' hhi
  generalize hu : a.eval x = u at hv
  have hund : ∀ w : World, (underlying t).run X.P w = .ok (.slice e) w := fun w => by simp [underlying, program, Sem.run, ht.u]
  cases hv with
  | slnil ad => exact absurd rfl hr
  | sl rows b o cap ec val h0 hcap hmax hec hcell hflat hrep =>
    have hecn : ec = n := by
      cases rows with
      | nil => exact absurd rfl h0
      | cons r rs => rw [← hec r (by simp)]; exact hln r (by simp)
    subst hecn
    generalize hL : l.getD 0 = L at *
    generalize hG : h.getD rows.length = G at *
    refine ⟨.slice (if cap = L then some ⟨b, o, none⟩ else some ⟨b, o + L * ec, none⟩) (G - L) (cap - L), ?_, ?_⟩
    · have c2 : ((G : Nat) : Int) ≤ cap := by omega
      have run : ∀ lv hv' : Option Value, (lv = none ∧ L = 0 ∨ ∃ k, lv = some (.int k (L : Int))) → (hv' = none ∧ G = rows.length ∨ ∃ k, hv' = some (.int k (G : Int))) →
          (Instr.sliceBounds true rows.length cap lv hv' none).run X.P σ.w = .ok (L, G, cap) σ.w := by
        rintro lv hv' (⟨rfl, rfl⟩ | ⟨k, rfl⟩) (⟨rfl, rfl⟩ | ⟨k', rfl⟩)
        · simp [Instr.sliceBounds]
        · simp [Instr.sliceBounds, Instr.sliceBound, asIntOf, show G ≤ cap by omega]
        · simp [Instr.sliceBounds, Instr.sliceBound, asIntOf, h1]
        · simp [Instr.sliceBounds, Instr.sliceBound, asIntOf, show G ≤ cap by omega, h1]
      have hr := run (lo.map a.eval) (hi.map a.eval)
        (by rcases hb1 with ⟨rfl, e⟩ | ⟨n, k, rfl, e⟩
            · left; exact ⟨e, by simpa using hL.symm⟩
            · right; exact ⟨k, by rw [e]; simp at hL; subst hL; rfl⟩)
        (by rcases hb2 with ⟨rfl, e⟩ | ⟨n, k, rfl, e⟩
            · left; exact ⟨e, by simpa using hG.symm⟩
            · right; exact ⟨k, by rw [e]; simp at hG; subst hG; rfl⟩)
      simp only [execOp, Instr.sliceAt, Instr.slice, hu, Option.map_none]
      simp only [Sem.run_bind, hund, Result.andThen_ok, hr, size_run hs.size, Sem.run_pure]
      by_cases hc : cap = L
      · simp [hc]
      · simp [hc, addr_add]
    · generalize hq : (rows.drop L).take (G - L) = q
      have hql : q.length = G - L := by rw [← hq]; simp; omega
      cases q with
      | nil =>
        simp at hql
        rw [show G - L = 0 by omega]
        exact .m (.d (.slz _ _))
      | cons r0 rs0 =>
        simp only
        generalize hqq : r0 :: rs0 = q at *
        have hpos : 0 < G - L := by rw [← hql, ← hqq]; simp
        rw [if_neg (by omega), ← hql]
        have hget : ∀ i r, q[i]? = some r → rows[L + i]? = some r := by
          intro i r hr
          rw [← hq, List.getElem?_take] at hr
          split at hr
          · rw [List.getElem?_drop] at hr; exact hr
          · cases hr
        have hlt : ∀ i, i < q.length → L + i < rows.length := by intro i hi; omega
        refine .m (.d (Rep.sl q b (o + L * ec) (cap - L) ec (fun i j => val (L + i) j) (by rw [← hqq]; simp) (by omega) (by omega) ?_ ?_ ?_ ?_))
        · intro r hr
          obtain ⟨i, hi⟩ := List.mem_iff_getElem?.1 hr
          exact hec r (List.mem_of_getElem? (hget i r hi))
        · intro i j hi hj
          have := hcell (L + i) j (hlt i hi) hj
          rw [show o + L * ec + (i * ec + j) = o + ((L + i) * ec + j) by rw [Nat.add_mul]; omega]
          exact this
        · intro i j hi hj; exact hflat (L + i) j (hlt i hi) hj
        · intro i j r d hr hd; exact hrep (L + i) j r d (hget i r hr) hd
end ops
end Go.Mt
