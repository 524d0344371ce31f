import Derived.Test.YtjhinemdonddoaaMtEf
import Derived.LaidEql
set_option linter.unusedVariables false
set_option linter.unusedSimpArgs false
namespace Go.Mt

theorem listEqB_eq : ∀ (a b : List UInt8), listEqB a b = decide (a = b)
  | [], [] => by simp [listEqB]
  | [], _ :: _ => by simp [listEqB]
  | _ :: _, [] => by simp [listEqB]
  | a :: r, b :: s => by
    unfold listEqB
    by_cases h : a = b
    · subst h; simp [listEqB_eq r s]
    · have : Nat.beq a.toNat b.toNat = false := by
        rw [← Bool.not_eq_true]; intro e; exact h (UInt8.toNat_inj.1 (Nat.eq_of_beq_eq_true e))
      rw [this]; simp [h]
theorem strEqB_eq (s u : ByteArray) : strEqB s u = decide (s = u) := by
  unfold strEqB
  rw [listEqB_eq]
  cases s with
  | mk a => cases u with
    | mk b => cases a; cases b; simp
theorem catB_eq (s u : ByteArray) : catB s u = s ++ u := by
  unfold catB
  apply ByteArray.ext
  simp [ByteArray.data_append]
theorem lookE_eq (k : ByteArray) : ∀ es, lookE k es = lookM k es
  | [] => rfl
  | (d, m) :: r => by cases d <;> simp [lookE, lookM, strEqB_eq, lookE_eq k r]
theorem updE_eq (k : ByteArray) (v : M) : ∀ es, updE k v es = updM k v es
  | [] => rfl
  | (d, m) :: r => by cases d <;> simp [updE, updM, strEqB_eq, updE_eq k v r]

section ops
variable {X : Ctx} {st : St} {dst : Option Nat} {ty : Nat} {pos : String} {af : Array Edge} {g : Option (Nat × Bool)} {pn : Nat} {H' : Hp}

theorem op_lookupNil {T e : Nat} {x y : Operand} {k : ByteArray} {z : D} {ok : Bool} [ht : TyMapS X.P T e] [hz : TyZ X.P e z] (hx : st.ev x = some (.m (.d .nilm))) (hy : st.ev y = some (.m (.d (.str k)))) :
    OpT X ⟨dst, .lookup T x y ok, ty, pos, af, g⟩ st (eqp (bif ok then .m (.tup [.d z, .d (.bool false)]) else .m (.d z)) st) := by
  refine OpT.quiet fun a σ lam hi => ?_
  have h := hi.evd hx
  have h2 := hi.evstr hy
  obtain ⟨kt, u1, u2⟩ := ht.u
  obtain ⟨zv, hz1, hz2⟩ := (tyZero_of hz.zero).run
  generalize hu : a.eval x = u at h
  cases h with
  | nilm =>
    have hck : ∀ b, (Instr.checkKey b 10000 kt (.string k)).run X.P σ.w = .ok () σ.w := fun b => checkKey_str (n := 9999) u2
    cases ok with
    | true =>
      refine ⟨.tuple #[zv, .bool false], ?_, .m (.tup _ _ rfl ?_)⟩
      · simp only [execOp, hu, h2, Instr.lookup]
        simp [underlying, program, Sem.run, u1, hck, Instr.findKey, u2, hz1, Instr.findNow]
      · intro n m v hm hv
        match n with
        | 0 => simp at hm hv; subst hm; subst hv; exact .d (dOfVal_rep hz2)
        | 1 => simp at hm hv; subst hm; subst hv; exact .d (.bool _)
        | n + 2 => simp at hm
    | false =>
      refine ⟨zv, ?_, .m (.d (dOfVal_rep hz2))⟩
      simp only [execOp, hu, h2, Instr.lookup]
      simp [underlying, program, Sem.run, u1, hck, Instr.findKey, u2, hz1, Instr.findNow]

theorem op_index {T : Nat} {x y : Operand} {s : ByteArray} {k : IntKind} {i : Nat} {b : UInt8} [ht : TyStr X.P T] (hx : st.ev x = some (.m (.d (.str s)))) (hy : st.ev y = some (.m (.d (.int k (.ofNat i))))) (hb : s.data.toList[i]? = some b) :
    OpT X ⟨dst, .index T x y, ty, pos, af, g⟩ st (eqp (.m (.d (.int .u8 b.toNat))) st) := by
  refine OpT.quiet fun a σ lam hi => ?_
  have h1 := hi.evstr hx
  have h2 := hi.evint hy
  have hb' : s[i]? = some b := by
    have hlt : i < s.data.toList.length := by rcases Nat.lt_or_ge i s.data.toList.length with h | h; exact h; simp [List.getElem?_eq_none h] at hb
    have hs : i < s.size := by have h9 := hlt; rw [Array.length_toList] at h9; exact h9
    rw [getElem?_pos s i hs]
    rw [List.getElem?_eq_getElem hlt] at hb
    injection hb with hb
    rw [← hb]
    rfl
  refine ⟨.int .u8 b.toNat, ?_, .m (.d (.int _ _))⟩
  have hund : (underlying T).run X.P σ.w = .ok .string σ.w := by simp [underlying, program, Sem.run, ht.u]
  have hif : (if (0 : Int) ≤ Int.ofNat i then s[(Int.ofNat i).toNat]? else none) = some b := by
    have h0 : (0 : Int) ≤ Int.ofNat i := Int.natCast_nonneg i
    rw [if_pos h0]; exact hb'
  simp only [execOp, h1, h2, Instr.index, asIntOf, Sem.run_bind, Sem.run_pure, Result.andThen_ok, hund, hif]

/-- what a pointer, a map or a function is against nil -/
theorem nil_ptr {σ : Sg} {lam : Nat → Nat} {v : V} {u : Value} {z : Bool} (h : RV σ lam v u) (hn : nilOf 1 v = some z) : ∃ p, u = .pointer p ∧ p.isNone = z := by
  unfold nilOf at hn
  cases h with
  | loc t off => simp at hn; subst hn; exact ⟨_, rfl, rfl⟩
  | m h => cases h with
    | ref i off cs h => simp at hn; subst hn; exact ⟨_, rfl, rfl⟩
    | rref i ver off b h1 h2 => simp at hn; subst hn; exact ⟨_, rfl, rfl⟩
    | d h => cases h with
      | pim cs off b o val h1 h2 h3 => simp at hn; subst hn; exact ⟨_, rfl, rfl⟩
      | nilp => simp at hn; subst hn; exact ⟨_, rfl, rfl⟩
      | _ => simp at hn
    | _ => simp at hn
theorem nil_map {σ : Sg} {lam : Nat → Nat} {v : V} {u : Value} {z : Bool} (h : RV σ lam v u) (hn : nilOf 2 v = some z) : ∃ p, u = .map p ∧ p.isNone = z := by
  unfold nilOf at hn
  cases h with
  | loc t off => simp at hn
  | m h => cases h with
    | mp i es h => simp at hn; subst hn; exact ⟨_, rfl, rfl⟩
    | d h => cases h with
      | nilm => simp at hn; subst hn; exact ⟨_, rfl, rfl⟩
      | _ => simp at hn
    | _ => simp at hn
theorem nil_fun {σ : Sg} {lam : Nat → Nat} {v : V} {u : Value} {z : Bool} (h : RV σ lam v u) (hn : nilOf 3 v = some z) : (z = true ∧ u = .nilFunc) ∨ (z = false ∧ ∃ f a b, u = .func f a b) := by
  unfold nilOf at hn
  cases h with
  | loc t off => simp at hn
  | m h => cases h with
    | fn f cs vs hl hh => simp at hn; subst hn; exact .inr ⟨rfl, _, _, _, rfl⟩
    | d h => cases h with
      | nilf => simp at hn; subst hn; exact .inl ⟨rfl, rfl⟩
      | fn f cs vs hl hh => simp at hn; subst hn; exact .inr ⟨rfl, _, _, _, rfl⟩
      | _ => simp at hn
    | _ => simp at hn

theorem equal_ptr {P : Program} {w : World} {t e : Nat} (h : P.underlying t = some (.pointer e)) (p : Option Addr) : (Op.equal t (.pointer p) (.pointer none)).run P w = .ok p.isNone w := by
  have hund : (underlying t).run P w = .ok (.pointer e) w := by simp [underlying, program, Sem.run, h]
  simp only [Op.equal, Op.maxDepth]
  rw [Op.equalIn]
  cases p <;> simp [hund]
theorem equal_map {P : Program} {w : World} {t e e2 : Nat} (h : P.underlying t = some (.map e e2)) (p : Option Nat) : (Op.equal t (.map p) (.map none)).run P w = .ok p.isNone w := by
  have hund : (underlying t).run P w = .ok (.map e e2) w := by simp [underlying, program, Sem.run, h]
  simp only [Op.equal, Op.maxDepth]
  rw [Op.equalIn]
  cases p <;> simp [hund]
theorem equal_fun {P : Program} {w : World} {t : Nat} {e1 e2 e3} (h : P.underlying t = some (.func e1 e2 e3)) (x : Value) (hx : x = .nilFunc ∨ ∃ f c d, x = .func f c d) : (Op.equal t x .nilFunc).run P w = .ok (match x with | .nilFunc => true | _ => false) w := by
  have hund : (underlying t).run P w = .ok (.func e1 e2 e3) w := by simp [underlying, program, Sem.run, h]
  simp only [Op.equal, Op.maxDepth]
  rw [Op.equalIn]
  rcases hx with rfl | ⟨f, c, d, rfl⟩ <;> simp [hund]

theorem eq_nil {P : Program} {w : World} {xt k : Nat} {σ : Sg} {lam : Nat → Nat} {v u : V} {a b : Value} {z : Bool} (hk : tyRef P xt = k) (hk0 : k = 1 ∨ k = 2 ∨ k = 3) (ha : RV σ lam v a) (hb : RV σ lam u b) (h1 : nilOf k v = some z) (h2 : nilOf k u = some true) :
    (Op.equal xt a b).run P w = .ok z w ∧ (∀ op x y, (eqGuard op xt x y a b).run P w = .ok () w) ∧ (binOp .eql xt a b).run P w = .ok (.bool z) w ∧ (binOp .neq xt a b).run P w = .ok (.bool (!z)) w := by
  have key : (Op.equal xt a b).run P w = .ok z w → (∃ p q, a = .pointer p ∧ b = .pointer q) ∨ (∃ p q, a = .map p ∧ b = .map q) ∨ ((a = .nilFunc ∨ ∃ f c d, a = .func f c d) ∧ b = .nilFunc) →
      (Op.equal xt a b).run P w = .ok z w ∧ (∀ op x y, (eqGuard op xt x y a b).run P w = .ok () w) ∧ (binOp .eql xt a b).run P w = .ok (.bool z) w ∧ (binOp .neq xt a b).run P w = .ok (.bool (!z)) w := by
    rintro he (⟨p, q, rfl, rfl⟩ | ⟨p, q, rfl, rfl⟩ | ⟨rfl | ⟨f, c, d, rfl⟩, rfl⟩) <;>
      exact ⟨he, fun op x y => by cases op <;> simp [eqGuard], by simp [binOp, he], by simp [binOp, he]⟩
  rcases hk0 with rfl | rfl | rfl
  · obtain ⟨p, rfl, hp⟩ := nil_ptr ha h1
    obtain ⟨q, rfl, hq⟩ := nil_ptr hb h2
    have hu : ∃ e, P.underlying xt = some (.pointer e) := by
      unfold tyRef at hk
      split at hk <;> first | exact ⟨_, by assumption⟩ | cases hk
    obtain ⟨e, hu⟩ := hu
    refine key ?_ (.inl ⟨p, q, rfl, rfl⟩)
    have : q = none := by simpa using hq
    subst this
    rw [equal_ptr hu, hp]
  · obtain ⟨p, rfl, hp⟩ := nil_map ha h1
    obtain ⟨q, rfl, hq⟩ := nil_map hb h2
    have hu : ∃ e e2, P.underlying xt = some (.map e e2) := by
      unfold tyRef at hk
      split at hk <;> first | exact ⟨_, _, by assumption⟩ | cases hk
    obtain ⟨e, e2, hu⟩ := hu
    refine key ?_ (.inr (.inl ⟨p, q, rfl, rfl⟩))
    have : q = none := by simpa using hq
    subst this
    rw [equal_map hu, hp]
  · have hu : ∃ e e2 e3, P.underlying xt = some (.func e e2 e3) := by
      unfold tyRef at hk
      split at hk <;> first | exact ⟨_, _, _, by assumption⟩ | cases hk
    obtain ⟨e1, e2, e3, hu⟩ := hu
    rcases nil_fun hb h2 with ⟨_, rfl⟩ | ⟨h, _⟩
    · rcases nil_fun ha h1 with ⟨rfl, rfl⟩ | ⟨rfl, f, c, d, rfl⟩
      · exact key (by rw [equal_fun hu _ (.inl rfl)]) (.inr (.inr ⟨.inl rfl, rfl⟩))
      · exact key (by rw [equal_fun hu _ (.inr ⟨f, c, d, rfl⟩)]) (.inr (.inr ⟨.inr ⟨f, c, d, rfl⟩, rfl⟩))
    · cases h

theorem nil_ifc {σ : Sg} {lam : Nat → Nat} {v : V} {u : Value} {z : Bool} (h : RV σ lam v u) (hn : nilOf 5 v = some z) : (z = true ∧ u = .nilIface) ∨ (z = false ∧ ∃ t x, u = .iface t x) := by
  unfold nilOf at hn
  cases h with
  | loc t off => simp at hn
  | m h => cases h with
    | d h => cases h with
      | nili => simp at hn; subst hn; exact .inl ⟨rfl, rfl⟩
      | ifc t d v h => simp at hn; subst hn; exact .inr ⟨rfl, _, _, rfl⟩
      | _ => simp at hn
    | _ => simp at hn
theorem equal_ifc {P : Program} {w : World} {t : Nat} {ms} (h : P.underlying t = some (.interface ms)) (x : Value) (hx : x = .nilIface ∨ ∃ f c, x = .iface f c) : (Op.equal t x .nilIface).run P w = .ok (match x with | .nilIface => true | _ => false) w := by
  have hund : (underlying t).run P w = .ok (.interface ms) w := by simp [underlying, program, Sem.run, h]
  simp only [Op.equal, Op.maxDepth]
  rw [Op.equalIn]
  rcases hx with rfl | ⟨f, c, rfl⟩ <;> simp [hund]
theorem op_nilI {xt yt : Nat} {x : Operand} {v : V} {z : Bool} {op : BinOp} (hop : op = .eql ∨ op = .neq) (hk : tyRef X.P xt = 5) (hx : st.ev x = some v) (h1 : nilOf 5 v = some z) :
    OpT X ⟨dst, .binOp op xt x (.const .nilIface) yt, ty, pos, af, g⟩ st (eqp (.m (.d (.bool (match op with | .eql => z | _ => !z)))) st) := by
  refine OpT.quiet fun a σ lam hi => ?_
  have hu : ∃ ms, X.P.underlying xt = some (.interface ms) := by
    unfold tyRef at hk
    split at hk <;> first | exact ⟨_, by assumption⟩ | cases hk
  obtain ⟨ms, hu⟩ := hu
  have hy : a.eval (.const .nilIface) = .nilIface := rfl
  rcases nil_ifc (hi.ev hx) h1 with ⟨rfl, hv⟩ | ⟨rfl, t, c, hv⟩
  · have he := equal_ifc (w := σ.w) hu .nilIface (.inl rfl)
    rcases hop with rfl | rfl
    · exact ⟨.bool true, by simp [execOp, hv, hy, eqGuard, binOp, he], .m (.d (.bool _))⟩
    · exact ⟨.bool false, by simp [execOp, hv, hy, eqGuard, binOp, he], .m (.d (.bool _))⟩
  · have he := equal_ifc (w := σ.w) hu (.iface t c) (.inr ⟨t, c, rfl⟩)
    rcases hop with rfl | rfl
    · exact ⟨.bool false, by simp [execOp, hv, hy, eqGuard, binOp, he], .m (.d (.bool _))⟩
    · exact ⟨.bool true, by simp [execOp, hv, hy, eqGuard, binOp, he], .m (.d (.bool _))⟩

theorem equal_sl {P : Program} {w : World} {t e : Nat} (h : P.underlying t = some (.slice e)) (a : Addr) (l c : Nat) : (Op.equal t (.slice (some a) l c) (.slice none 0 0)).run P w = .ok false w := by
  have hund : (underlying t).run P w = .ok (.slice e) w := by simp [underlying, program, Sem.run, h]
  simp only [Op.equal, Op.maxDepth]
  rw [Op.equalIn]
  simp [hund]
theorem op_nilS {xt yt : Nat} {x : Operand} {op : BinOp} (hop : op = .eql ∨ op = .neq) (hk : tyRef X.P xt = 6) (hx : ∀ a σ lam, FInv X σ lam st a → ∃ ad l c, a.eval x = .slice (some ad) l c) :
    OpT X ⟨dst, .binOp op xt x (.const (.slice none 0 0)) yt, ty, pos, af, g⟩ st (eqp (.m (.d (.bool (match op with | .eql => false | _ => true)))) st) := by
  refine OpT.quiet fun a σ lam hi => ?_
  have hu : ∃ e, X.P.underlying xt = some (.slice e) := by
    unfold tyRef at hk
    split at hk <;> first | exact ⟨_, by assumption⟩ | cases hk
  obtain ⟨e, hu⟩ := hu
  obtain ⟨ad, l, c, hv⟩ := hx a σ lam hi
  have hy : a.eval (.const (.slice none 0 0)) = .slice none 0 0 := rfl
  have he := equal_sl (w := σ.w) hu ad l c
  rcases hop with rfl | rfl
  · exact ⟨.bool false, by simp [execOp, hv, hy, eqGuard, binOp, he], .m (.d (.bool _))⟩
  · exact ⟨.bool true, by simp [execOp, hv, hy, eqGuard, binOp, he], .m (.d (.bool _))⟩
theorem sl_cons {σ : Sg} {lam : Nat → Nat} {a : Act} (hi : FInv X σ lam st a) {x : Operand} {r : List D} {rs : List (List D)} (hx : st.ev x = some (.m (.d (.sl (r :: rs))))) : ∃ ad l c, a.eval x = .slice (some ad) l c := by
  have h := hi.evd hx
  generalize a.eval x = u at h
  cases h with
  | sl rows b o cap ec val h0 hcap hmax hec hcell hflat hrep => exact ⟨_, _, _, rfl⟩
theorem sl_row {σ : Sg} {lam : Nat → Nat} {a : Act} (hi : FInv X σ lam st a) {x : Operand} {j ver len : Nat} {acc : Bool} {ec : Nat} {cs : List M} (hx : st.ev x = some (.m (.rsl j ver len))) (hH : st.H[j]? = some (.row acc ec ver cs)) : ∃ ad l c, a.eval x = .slice (some ad) l c := by
  have h := hi.ev hx
  generalize a.eval x = u at h
  cases h with
  | m h => cases h with
    | rsl j ver len ad cap hle hcur =>
      obtain ⟨e1, _⟩ := hcur acc ec cs (by rw [hi.hH]; exact hH)
      subst e1
      exact ⟨_, _, _, rfl⟩
theorem op_slice00 {t e n : Nat} {x y z : Operand} {k k' : IntKind} {m : M} [ht : TySlice X.P t e] [hs : TySz X.P e n] (hx : st.ev x = some (.m m)) (hsl : isSl m = true) (hy : st.ev y = some (.m (.d (.int k 0)))) (hz : st.ev z = some (.m (.d (.int k' 0)))) :
    OpT X ⟨dst, .slice t x none (some y) (some z), ty, pos, af, g⟩ st (eqp (.m (.d (.sl []))) st) := by
  refine OpT.quiet fun a σ lam hi => ?_
  have hv : ∃ ad l c, a.eval x = .slice ad l c := by
    have h := hi.ev hx
    generalize a.eval x = u at h
    cases h with
    | m h => cases h with
      | rsl j ver len ad cap hle hcur => exact ⟨_, _, _, rfl⟩
      | d h => cases h with
        | slnil a => exact ⟨_, _, _, rfl⟩
        | slz a c => exact ⟨_, _, _, rfl⟩
        | sl rows b o cap ec val h0 hcap hmax hec hcell hflat hrep => exact ⟨_, _, _, rfl⟩
        | _ => cases hsl
      | _ => cases hsl
  obtain ⟨ad, l, c, hv⟩ := hv
  have h1 := hi.evint hy
  have h2 := hi.evint hz
  have hund : ∀ w : World, (underlying t).run X.P w = .ok (.slice e) w := fun w => by simp [underlying, program, Sem.run, ht.u]
  refine ⟨.slice ad 0 0, ?_, .m (.d (.slnil ad))⟩
  simp [execOp, Instr.sliceAt, Instr.slice, hund, hv, h1, h2, Instr.sliceBounds, Instr.sliceBound, asIntOf, size_run hs.size]

theorem equal_ref {P : Program} {w : World} {t e n : Nat} (h : P.underlying t = some (.pointer e)) (hs : tySize P e = some n) (hn : 0 < n) (a b : Addr) {z : Bool} (hz : (sameAddr a b).run P w = .ok z w) : (Op.equal t (.pointer (some a)) (.pointer (some b))).run P w = .ok z w := by
  have hund : (underlying t).run P w = .ok (.pointer e) w := by simp [underlying, program, Sem.run, h]
  have hn' : ¬ n = 0 := by omega
  simp only [Op.equal, Op.maxDepth]
  rw [Op.equalIn]
  simp [hund, size_run hs, hn', hz]
theorem op_ptreq {xt yt i j oi oj : Nat} {x y : Operand} {op : BinOp} (hop : op = .eql ∨ op = .neq) (hk : tyPtrOk X.P xt = true) (hx : st.ev x = some (.m (.ref i oi))) (hy : st.ev y = some (.m (.ref j oj))) :
    OpT X ⟨dst, .binOp op xt x y yt, ty, pos, af, g⟩ st (eqp (.m (.d (.bool (match op with | .eql => (Nat.beq i j && Nat.beq oi oj) | _ => !(Nat.beq i j && Nat.beq oi oj))))) st) := by
  refine OpT.quiet fun a σ lam hi => ?_
  have hu : ∃ e n, X.P.underlying xt = some (.pointer e) ∧ tySize X.P e = some n ∧ 0 < n := by
    unfold tyPtrOk at hk
    split at hk
    · rename_i e hu
      split at hk
      · rename_i n hn; exact ⟨e, n, hu, hn, blt_lt hk⟩
      · cases hk
    · cases hk
  obtain ⟨e, n, hu, hs, hn⟩ := hu
  have h1 := hi.ev hx
  have h2 := hi.ev hy
  generalize hv : a.eval x = p at h1
  generalize hw : a.eval y = q at h2
  cases h1 with
  | m h1 => cases h1 with
    | ref i oi cs hHi => cases h2 with
      | m h2 => cases h2 with
        | ref j oj ds hHj =>
          obtain ⟨arr, T, g1, _⟩ := hi.hinv.obj i _ hHi
          obtain ⟨arr2, T2, g2, _⟩ := hi.hinv.obj j _ hHj
          have hz : (sameAddr ⟨σ.l i, oi, none⟩ ⟨σ.l j, oj, none⟩).run X.P σ.w = .ok (Nat.beq i j && Nat.beq oi oj) σ.w := by
            by_cases e1 : i = j ∧ oi = oj
            · obtain ⟨rfl, rfl⟩ := e1
              have := run_sameAddr_same (P := X.P) σ.w ⟨σ.l i, oi, none⟩
              simpa using this
            · have hne : (⟨σ.l i, oi, none⟩ : Addr) ≠ ⟨σ.l j, oj, none⟩ := by
                intro he
                injection he with e2 e3
                exact e1 ⟨hi.hinv.inj i j _ _ hHi hHj trivial trivial e2, e3⟩
              have hf : (Nat.beq i j && Nat.beq oi oj) = false := by
                rw [← Bool.not_eq_true]
                intro h
                rw [Bool.and_eq_true] at h
                exact e1 ⟨Nat.eq_of_beq_eq_true h.1, Nat.eq_of_beq_eq_true h.2⟩
              rw [hf]
              exact run_sameAddr_other (P := X.P) σ.w hne g1 g2
          have he := equal_ref hu hs hn _ _ hz
          rcases hop with rfl | rfl
          · exact ⟨.bool (Nat.beq i j && Nat.beq oi oj), by simp [execOp, hv, hw, eqGuard, binOp, he], .m (.d (.bool _))⟩
          · exact ⟨.bool (!(Nat.beq i j && Nat.beq oi oj)), by simp [execOp, hv, hw, eqGuard, binOp, he], .m (.d (.bool _))⟩

theorem op_nil {xt yt k : Nat} {x y : Operand} {v u : V} {z : Bool} {op : BinOp} (hop : op = .eql ∨ op = .neq) (hk : tyRef X.P xt = k) (hk0 : k = 1 ∨ k = 2 ∨ k = 3) (hx : st.ev x = some v) (hy : st.ev y = some u) (h1 : nilOf k v = some z) (h2 : nilOf k u = some true) :
    OpT X ⟨dst, .binOp op xt x y yt, ty, pos, af, g⟩ st (eqp (.m (.d (.bool (match op with | .eql => z | _ => !z)))) st) := by
  refine OpT.quiet fun a σ lam hi => ?_
  obtain ⟨h3, h4, h5, h6⟩ := eq_nil (w := σ.w) hk hk0 (hi.ev hx) (hi.ev hy) h1 h2
  rcases hop with rfl | rfl
  · exact ⟨.bool z, by simp [execOp, h4, h5], .m (.d (.bool z))⟩
  · exact ⟨.bool (!z), by simp [execOp, h4, h6], .m (.d (.bool (!z)))⟩

theorem subB_eq (s : ByteArray) (l h : Nat) : subB s l h = s.extract l h := by
  unfold subB
  apply ByteArray.ext
  simp [ByteArray.data_extract]
  rw [← Array.toList_inj]
  simp [List.extract_eq_take_drop]
theorem part_run {P : Program} {σ : Sg} {t off : Nat} {cs : List M} {vs : Array Value} {m : M} {w : World} (h : RMc σ cs vs) (hr : readAt P t cs off = some m) : ∃ u, (part t vs off).run P w = .ok u w ∧ RM σ m u := by
  unfold readAt at hr
  split at hr
  · rename_i n ha hn
    have hag : TyAgg P t n := ⟨ha, hn⟩
    cases hb : Nat.ble (off + n) cs.length with
    | false => simp [hb] at hr
    | true =>
      simp only [hb, cond_true] at hr
      injection hr with hr
      have hle := Nat.le_of_ble_eq_true hb
      have hsz := h.1
      refine ⟨.agg (vs.extract off (off + n)), ?_, ?_⟩
      · unfold part
        simp [hag.run, size_run hn]
      · have hc : RMc σ ((cs.drop off).take n) (vs.extract off (off + n)) := by
          refine ⟨by simp; omega, fun i m' v hm hv => ?_⟩
          have hi : i < n := by
            rcases Nat.lt_or_ge i n with h | h
            · exact h
            · rw [List.getElem?_eq_none (by simp; omega)] at hm; cases hm
          rw [take_drop_getElem? _ _ _ _ hi] at hm
          rw [Array.getElem?_extract, if_pos (by omega)] at hv
          exact h.2 (off + i) m' v hm hv
        rw [← hr]
        unfold pack
        split
        · rename_i ds hd
          have := RMs.allD ⟨hc.1, fun i m v a b => (hc.2 i m v a b).1⟩ hd
          exact .d (.agg ds _ this.1 hc.flat this.2)
        · exact .agg _ _ hc.1 hc.flat (fun i m v a b => (hc.2 i m v a b).1)
  · rename_i n ha
    have hcl : TyCell P t := ⟨ha⟩
    have hlt : off < cs.length := by rcases Nat.lt_or_ge off cs.length with h | h; exact h; simp [List.getElem?_eq_none h] at hr
    have hlv : off < vs.size := by rw [h.1]; exact hlt
    refine ⟨vs[off], ?_, (h.2 off m vs[off] hr (by simp [hlv])).1⟩
    unfold part
    simp [hcl.run, hlv]
  · cases hr
theorem tyArr_eq {P : Program} {t len e : Nat} (h : tyArr P t = some (len, e)) : P.underlying t = some (.array len e) := by
  unfold tyArr at h
  split at h
  · rename_i l e' hu; injection h with h; injection h with e1 e2; subst e1; subst e2; exact hu
  · cases h
theorem op_buildArr {T len e n : Nat} {parts : List (Nat × Operand)} {z : List D} {ms : List (Nat × M)} {cs : List M} (hu : X.P.underlying T = some (.array len e)) [hs : TySz X.P e n] (hzz : tyZero X.P T = some (.agg z)) (he : evParts st parts = some ms)
    (hf : fillM (fun i => some (i * n, n)) (z.map .d) ms = some cs) : OpT X ⟨dst, .build T parts.toArray, ty, pos, af, g⟩ st (eqp (.m (pack cs)) st) := by
  refine OpT.quiet fun a σ lam hi => ?_
  obtain ⟨h1, h2⟩ := hi.evParts he
  obtain ⟨v, hz1, hz2⟩ := (tyZero_of hzz).run
  have hc : RMc σ (z.map .d) v.cells := (RM.d (dOfVal_rep hz2) : RM σ (.d (.agg z)) v).cells rfl
  obtain ⟨arr', h3, h4⟩ := fill_run hc h1 h2 hf
  refine ⟨.agg arr', ?_, .m ?_⟩
  · simp only [execOp, Instr.build]
    simp only [Sem.run_bind, hz1, Result.andThen_ok, underlying, program, Sem.run, hu, Sem.run_pure, size_run hs.size]
    have : (Array.map (fun x : Nat × Operand => match x with | (i, x) => (i, a.eval x)) parts.toArray).toList = parts.map fun p => (p.1, a.eval p.2) := by simp
    simp only [this]
    rw [h3]
    simp
  · unfold pack
    split
    · rename_i ds hd
      have := RMs.allD ⟨h4.1, fun i m v a b => (h4.2 i m v a b).1⟩ hd
      exact .d (.agg ds _ this.1 h4.flat this.2)
    · exact .agg _ _ h4.1 h4.flat (fun i m v a b => (h4.2 i m v a b).1)
theorem agg_cells {σ : Sg} {lam : Nat → Nat} {m : M} {cs : List M} {u : Value} (hv : RV σ lam (.m m) u) (hc : aggCells m = some cs) : ∃ vs, u = .agg vs ∧ RMc σ cs vs := by
  unfold aggCells at hc
  cases hv with
  | m hv => cases hv with
    | d hv => cases hv with
      | agg ds vs hl hfl hh =>
        simp at hc; subst hc
        refine ⟨vs, rfl, by simp [hl], fun i m v hm hvv => ?_⟩
        simp only [List.getElem?_map, Option.map_eq_some_iff] at hm
        obtain ⟨d, hd, rfl⟩ := hm
        exact ⟨.d (hh i d v hd hvv), hfl i v hvv⟩
      | _ => simp at hc
    | agg ms vs hl hfl hh =>
      simp at hc; subst hc
      exact ⟨vs, rfl, hl, fun i m v hm hvv => ⟨hh i m v hm hvv, hfl i v hvv⟩⟩
    | _ => simp at hc
theorem op_indexArr {T len e n i : Nat} {x y : Operand} {k : IntKind} {m r : M} {cs : List M} (hu : X.P.underlying T = some (.array len e)) [hs : TySz X.P e n] (hx : st.ev x = some (.m m)) (hy : st.ev y = some (.m (.d (.int k (.ofNat i))))) (hc : aggCells m = some cs) (hi : i < len)
    (hr : readAt X.P e cs (i * n) = some r) : OpT X ⟨dst, .index T x y, ty, pos, af, g⟩ st (eqp (.m r) st) := by
  refine OpT.quiet fun a σ lam hinv => ?_
  have hv := hinv.ev hx
  have h2 := hinv.evint hy
  generalize hw : a.eval x = u at hv
  obtain ⟨vs, rfl, hcs⟩ := agg_cells hv hc
  obtain ⟨z, h1, h3⟩ := part_run (w := σ.w) hcs hr
  refine ⟨z, ?_, .m h3⟩
  have hund : (underlying T).run X.P σ.w = .ok (.array len e) σ.w := by simp [underlying, program, Sem.run, hu]
  have hb : (0 : Int) ≤ Int.ofNat i ∧ Int.ofNat i < (len : Int) := ⟨Int.natCast_nonneg i, by exact Int.ofNat_lt.2 hi⟩
  simp only [execOp, hw, h2, Instr.index, asIntOf, Sem.run_bind, Sem.run_pure, Result.andThen_ok, hund, if_pos hb, size_run hs.size]
  have e1 : (Int.ofNat i).toNat = i := rfl
  rw [e1, h1]
  rfl
theorem op_indexA {T len e n i : Nat} {x y : Operand} {k : IntKind} {v u : V} (hu : X.P.underlying T = some (.array len e)) [hs : TySz X.P e n] (hx : st.ev x = some v) (hy : st.ev y = some (.m (.d (.int k (.ofNat i))))) (hi : i < len) (ha : addrAt (i * n) v = some u) :
    OpT X ⟨dst, .indexAddr T x y, ty, pos, af, g⟩ st (eqp u st) := by
  refine OpT.quiet fun a σ lam hinv => ?_
  have hv := hinv.ev hx
  have h2 := hinv.evint hy
  generalize hw : a.eval x = p at hv
  have hund : (underlying T).run X.P σ.w = .ok (.array len e) σ.w := by simp [underlying, program, Sem.run, hu]
  have hb : (0 : Int) ≤ Int.ofNat i ∧ Int.ofNat i < (len : Int) := ⟨Int.natCast_nonneg i, by exact Int.ofNat_lt.2 hi⟩
  have e1 : (Int.ofNat i).toNat = i := rfl
  have run : ∀ (b o : Nat), p = .pointer (some ⟨b, o, none⟩) → (execOp a.eval ⟨dst, .indexAddr T x y, ty, pos, af, g⟩).run X.P σ.w = .ok (.value (.pointer (some ⟨b, o + i * n, none⟩))) σ.w := by
    intro b o hp
    subst hp
    simp only [execOp, hw, h2, Instr.indexAt, asIntOf, Instr.sureAddr, Sem.run_bind, Sem.run_pure, Result.andThen_ok, hund, if_pos hb, size_run hs.size, e1, addr_add]
  unfold addrAt at ha
  cases hv with
  | loc t off =>
    simp at ha; subst ha
    exact ⟨_, run _ _ rfl, .loc t _⟩
  | m hv => cases hv with
    | ref j off cs h => simp at ha; subst ha; exact ⟨_, run _ _ rfl, .m (.ref j _ cs h)⟩
    | rref j ver off b h1 h3 => simp at ha; subst ha; exact ⟨_, run _ _ rfl, .m (.rref j ver _ b h1 h3)⟩
    | d hv => cases hv with
      | pim cs off b o val h1 h3 h4 =>
        simp at ha; subst ha
        refine ⟨_, run _ _ rfl, ?_⟩
        rw [Nat.add_assoc]
        exact .m (.d (.pim cs (off + i * n) b o val h1 h3 h4))
      | _ => simp at ha
    | _ => simp at ha
theorem op_field {s f ft off : Nat} {x : Operand} {m r : M} {cs : List M} (hx : st.ev x = some (.m m)) (hf : tyFieldTy X.P s f = some (ft, off)) (hc : aggCells m = some cs) (hr : readAt X.P ft cs off = some r) :
    OpT X ⟨dst, .field s x f, ty, pos, af, g⟩ st (eqp (.m r) st) := by
  refine OpT.quiet fun a σ lam hi => ?_
  have hv := hi.ev hx
  generalize hu : a.eval x = u at hv
  have hfr : ∃ fields fd, X.P.underlying s = some (.struct fields) ∧ fields[f]? = some fd ∧ fd.type = ft ∧ fd.offset = off := by
    unfold tyFieldTy at hf
    split at hf
    · rename_i fields hu
      split at hf
      · rename_i fd hfd
        injection hf with hf; injection hf with e1 e2
        exact ⟨fields, fd, hu, hfd, e1, e2⟩
      · cases hf
    · cases hf
  obtain ⟨fields, fd, f1, f2, f3, f4⟩ := hfr
  have hcells : ∃ vs, u = .agg vs ∧ RMc σ cs vs := by
    unfold aggCells at hc
    cases hv with
    | m hv => cases hv with
      | d hv => cases hv with
        | agg ds vs hl hfl hh =>
          simp at hc; subst hc
          refine ⟨vs, rfl, by simp [hl], fun i m v hm hvv => ?_⟩
          simp only [List.getElem?_map, Option.map_eq_some_iff] at hm
          obtain ⟨d, hd, rfl⟩ := hm
          exact ⟨.d (hh i d v hd hvv), hfl i v hvv⟩
        | _ => simp at hc
      | agg ms vs hl hfl hh =>
        simp at hc; subst hc
        exact ⟨vs, rfl, hl, fun i m v hm hvv => ⟨hh i m v hm hvv, hfl i v hvv⟩⟩
      | _ => simp at hc
  obtain ⟨vs, rfl, hcs⟩ := hcells
  obtain ⟨z, h1, h2⟩ := part_run (w := σ.w) hcs hr
  refine ⟨z, ?_, .m h2⟩
  simp [execOp, Instr.field, hu, underlying, program, Sem.run, f1, f2, asAgg, f3, f4, h1]

/-- the two bounds of a part, as they are evaluated -/
theorem bound_run {σ : Sg} {lam : Nat → Nat} {a : Act} (hi : FInv X σ lam st a) {o : Option Operand} {l : Option Nat} (h : bound st.ev o = some l) : (l = none ∧ o.map a.eval = none) ∨ ∃ n k, l = some n ∧ o.map a.eval = some (.int k (n : Int)) := by
  unfold bound at h
  cases o with
  | none => simp at h; subst h; exact .inl ⟨rfl, rfl⟩
  | some y =>
    simp only at h
    split at h
    · rename_i k i hy
      injection h with h; subst h
      right
      exact ⟨i, k, rfl, by simp [hi.evint hy]⟩
    · cases h

theorem op_sliceT {t : Nat} {x : Operand} {lo hi : Option Operand} {l h : Option Nat} {s : ByteArray} [ht : TyStr X.P t] (hx : st.ev x = some (.m (.d (.str s)))) (hlo : bound st.ev lo = some l) (hhi : bound st.ev hi = some h)
    (h1 : l.getD 0 ≤ h.getD s.size) (h2 : h.getD s.size ≤ s.size) :
    OpT X ⟨dst, .slice t x lo hi none, ty, pos, af, g⟩ st (eqp (.m (.d (.str (subB s (l.getD 0) (h.getD s.size))))) st) := by
  refine OpT.quiet fun a σ lam hi' => ?_
  have hv := hi'.evstr hx
  have hb1 := bound_run hi' hlo
  have hb2 := bound_run hi' hhi
  have hund : ∀ w : World, (underlying t).run X.P w = .ok .string w := fun w => by simp [underlying, program, Sem.run, ht.u]
  generalize hL : l.getD 0 = L at *
  generalize hG : h.getD s.size = G at *
  refine ⟨.string (s.extract L G), ?_, by rw [subB_eq]; exact .m (.d (.str _))⟩
  have run : ∀ lv hv' : Option Value, (lv = none ∧ L = 0 ∨ ∃ k, lv = some (.int k (L : Int))) → (hv' = none ∧ G = s.size ∨ ∃ k, hv' = some (.int k (G : Int))) →
      (Instr.sliceBounds false s.size s.size lv hv' none).run X.P σ.w = .ok (L, G, s.size) σ.w := by
    rintro lv hv' (⟨rfl, rfl⟩ | ⟨k, rfl⟩) (⟨rfl, rfl⟩ | ⟨k', rfl⟩)
    · simp [Instr.sliceBounds]
    · simp [Instr.sliceBounds, Instr.sliceBound, asIntOf, h2]
    · simp [Instr.sliceBounds, Instr.sliceBound, asIntOf, h1]
    · simp [Instr.sliceBounds, Instr.sliceBound, asIntOf, h2, h1]
  have hr := run (lo.map a.eval) (hi.map a.eval)
    (by rcases hb1 with ⟨rfl, e⟩ | ⟨n, k, rfl, e⟩
        · left; exact ⟨e, by simpa using hL.symm⟩
        · right; exact ⟨k, by rw [e]; simp at hL; subst hL; rfl⟩)
    (by rcases hb2 with ⟨rfl, e⟩ | ⟨n, k, rfl, e⟩
        · left; exact ⟨e, by simpa using hG.symm⟩
        · right; exact ⟨k, by rw [e]; simp at hG; subst hG; rfl⟩)
  simp only [execOp, Instr.sliceAt, Instr.slice, hv, Option.map_none]
  simp [hund, hr]

theorem op_sliceD {t e n : Nat} {x : Operand} {lo hi : Option Operand} {l h : Option Nat} {rows : List (List D)} [ht : TySlice X.P t e] [hs : TySz X.P e n] (hx : st.ev x = some (.m (.d (.sl rows)))) (hlo : bound st.ev lo = some l) (hhi : bound st.ev hi = some h)
    (hr : rows ≠ []) (h1 : l.getD 0 ≤ h.getD rows.length) (h2 : h.getD rows.length ≤ rows.length) (hln : ∀ r ∈ rows, r.length = n) :
    OpT X ⟨dst, .slice t x lo hi none, ty, pos, af, g⟩ st (eqp (.m (.d (match (rows.drop (l.getD 0)).take (h.getD rows.length - l.getD 0) with | [] => .slz | r => .sl r))) st) := by
  refine OpT.quiet fun a σ lam hi' => ?_
  have hv := hi'.evd hx
  have hb1 := bound_run hi' hlo
  have hb2 := bound_run hi' hhi
  generalize hu : a.eval x = u at hv
  have hund : ∀ w : World, (underlying t).run X.P w = .ok (.slice e) w := fun w => by simp [underlying, program, Sem.run, ht.u]
  cases hv with
  | slnil ad => exact absurd rfl hr
  | sl rows b o cap ec val h0 hcap hmax hec hcell hflat hrep =>
    have hecn : ec = n := by
      cases rows with
      | nil => exact absurd rfl h0
      | cons r rs => rw [← hec r (by simp)]; exact hln r (by simp)
    subst hecn
    generalize hL : l.getD 0 = L at *
    generalize hG : h.getD rows.length = G at *
    refine ⟨.slice (if cap = L then some ⟨b, o, none⟩ else some ⟨b, o + L * ec, none⟩) (G - L) (cap - L), ?_, ?_⟩
    · have c2 : ((G : Nat) : Int) ≤ cap := by omega
      have run : ∀ lv hv' : Option Value, (lv = none ∧ L = 0 ∨ ∃ k, lv = some (.int k (L : Int))) → (hv' = none ∧ G = rows.length ∨ ∃ k, hv' = some (.int k (G : Int))) →
          (Instr.sliceBounds true rows.length cap lv hv' none).run X.P σ.w = .ok (L, G, cap) σ.w := by
        rintro lv hv' (⟨rfl, rfl⟩ | ⟨k, rfl⟩) (⟨rfl, rfl⟩ | ⟨k', rfl⟩)
        · simp [Instr.sliceBounds]
        · simp [Instr.sliceBounds, Instr.sliceBound, asIntOf, show G ≤ cap by omega]
        · simp [Instr.sliceBounds, Instr.sliceBound, asIntOf, h1]
        · simp [Instr.sliceBounds, Instr.sliceBound, asIntOf, show G ≤ cap by omega, h1]
      have hr := run (lo.map a.eval) (hi.map a.eval)
        (by rcases hb1 with ⟨rfl, e⟩ | ⟨n, k, rfl, e⟩
            · left; exact ⟨e, by simpa using hL.symm⟩
            · right; exact ⟨k, by rw [e]; simp at hL; subst hL; rfl⟩)
        (by rcases hb2 with ⟨rfl, e⟩ | ⟨n, k, rfl, e⟩
            · left; exact ⟨e, by simpa using hG.symm⟩
            · right; exact ⟨k, by rw [e]; simp at hG; subst hG; rfl⟩)
      simp only [execOp, Instr.sliceAt, Instr.slice, hu, Option.map_none]
      simp only [Sem.run_bind, hund, Result.andThen_ok, hr, size_run hs.size, Sem.run_pure]
      by_cases hc : cap = L
      · simp [hc]
      · simp [hc, addr_add]
    · generalize hq : (rows.drop L).take (G - L) = q
      have hql : q.length = G - L := by rw [← hq]; simp; omega
      cases q with
      | nil =>
        simp at hql
        rw [show G - L = 0 by omega]
        exact .m (.d (.slz _ _))
      | cons r0 rs0 =>
        simp only
        generalize hqq : r0 :: rs0 = q at *
        have hpos : 0 < G - L := by rw [← hql, ← hqq]; simp
        rw [if_neg (by omega), ← hql]
        have hget : ∀ i r, q[i]? = some r → rows[L + i]? = some r := by
          intro i r hr
          rw [← hq, List.getElem?_take] at hr
          split at hr
          · rw [List.getElem?_drop] at hr; exact hr
          · cases hr
        have hlt : ∀ i, i < q.length → L + i < rows.length := by intro i hi; omega
        refine .m (.d (Rep.sl q b (o + L * ec) (cap - L) ec (fun i j => val (L + i) j) (by rw [← hqq]; simp) (by omega) (by omega) ?_ ?_ ?_ ?_))
        · intro r hr
          obtain ⟨i, hi⟩ := List.mem_iff_getElem?.1 hr
          exact hec r (List.mem_of_getElem? (hget i r hi))
        · intro i j hi hj
          have := hcell (L + i) j (hlt i hi) hj
          rw [show o + L * ec + (i * ec + j) = o + ((L + i) * ec + j) by rw [Nat.add_mul]; omega]
          exact this
        · intro i j hi hj; exact hflat (L + i) j (hlt i hi) hj
        · intro i j r d hr hd; exact hrep (L + i) j r d (hget i r hr) hd
end ops
end Go.Mt
