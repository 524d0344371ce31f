import Derived.Test.YtjhinemdonddoaaMtZ
set_option linter.unusedVariables false
namespace Go.Mt

def bytesO : List (List D) → Option (List Int)
  | [] => some []
  | [.int .u8 n] :: r => match bytesO r with
    | some ns => some (n :: ns)
    | none => none
  | _ => none
theorem bytesO_eq : ∀ {rows : List (List D)} {ns : List Int}, bytesO rows = some ns → rows = ns.map fun n => [.int .u8 n]
  | [], ns, h => by simp [bytesO] at h; subst h; rfl
  | r :: rs, ns, h => by
    unfold bytesO at h
    split at h
    · rename_i e; cases e
    · rename_i n r' e
      injection e with e1 e2; subst e1; subst e2
      split at h
      · rename_i ns' hn
        injection h with h; subst h
        simp [bytesO_eq hn]
      · cases h
    · cases h

section ops
variable {X : Ctx} {st : St} {dst : Option Nat} {ty : Nat} {pos : String} {af : Array Edge} {g : Option (Nat × Bool)}
theorem op_b2s {s t e : Nat} {x : Operand} {rows : List (List D)} {ns : List Int} [hs : TySlice X.P s e] [he : TyInt X.P e .u8] [ht : TyStr X.P t] (hx : st.ev x = some (.m (.d (.sl rows)))) (hb : bytesO rows = some ns) :
    OpT X ⟨dst, .convert s t x, ty, pos, af, g⟩ st (eqp (.m (.d (.str (strOfNums ns)))) st) := by
  have := bytesO_eq hb
  subst this
  refine OpT.quiet fun a σ lam hi => ?_
  have h := hi.evd hx
  generalize hu : a.eval x = u at h
  refine ⟨.string (strOfNums ns), ?_, .m (.d (.str _))⟩
  generalize hr : (ns.map fun n => [D.int .u8 n]) = rows at h
  cases h with
  | slnil ad =>
    have : ns = [] := by simpa using hr
    subst this
    cases ad with
    | none =>
      have := run_convert_bytes_nil (P := X.P) σ.w s e hs.u he.u 0 0 t ht.u
      simp [execOp, hu, this, strOfNums]
      rfl
    | some ad =>
      have h1 : (loadCells ad 0).run X.P σ.w = .ok #[] σ.w := by simp [loadCells, loadCellsFrom]
      simp only [execOp, hu, Sem.run_bind]
      rw [run_convert_bytes_string σ.w s t e (some ad) 0 0 hs.u he.u ht.u, run_bytesToString σ.w ad 0 0 [] (by simpa using h1)]
      simp [strOfNums, ByteArray.empty, ByteArray.emptyWithCapacity]
      rfl
  | sl rows b o cap ec val h0 hcap hmax hec hcell hflat hrep =>
    subst hr
    have hlen : (ns.map fun n => [D.int .u8 n]).length = ns.length := by simp
    have hec1 : ec = 1 := by
      cases ns with
      | nil => simp at h0
      | cons n ns => rw [← hec [.int .u8 n] (by simp)]; rfl
    subst hec1
    have := run_convert_bytes_arg (P := X.P) σ.w s e hs.u he.u b o ns.length cap ns rfl (by
      intro i hi
      have h1 := (hcell i 0 (by simpa using hi) (by omega)).1
      have h2 := hrep i 0 [.int .u8 ns[i]] (.int .u8 ns[i]) (by simp [hi]) rfl
      have : val i 0 = .int .u8 ns[i] := by generalize val i 0 = q at h2; cases h2; rfl
      rw [this] at h1
      simp at h1
      simpa [hi] using h1) t ht.u
    simp [execOp, hu, this]
end ops

section rules
variable {X : Ctx} {ops : Array Oper} {rest : List Oper} {post : St → Prop} {postF : List Ef → St → Prop} {sl : List (Nat × V)} {bx : List (Nat × List M)} {H : Hp} {d ty : Nat} {pos : String} {af : Array Edge}
theorem t_b2s {s t e : Nat} {x : Operand} {rows : List (List D)} {ns : List Int} [hs : TySlice X.P s e] [he : TyInt X.P e .u8] [ht : TyStr X.P t] (hn : Nat.blt d X.n = true) (hx : evs sl x = some (.m (.d (.sl rows)))) (hb : bytesO rows = some ns)
    (k : TL X ops rest ⟨(d, .m (.d (.str (strOfNums ns)))) :: sl, bx, H⟩ post) : TL X ops (⟨some d, .convert s t x, ty, pos, af, none⟩ :: rest) ⟨sl, bx, H⟩ post :=
  TL.o1 rfl rfl hn (op_b2s hx hb) k
theorem f_b2s {s t e : Nat} {x : Operand} {rows : List (List D)} {ns : List Int} [hs : TySlice X.P s e] [he : TyInt X.P e .u8] [ht : TyStr X.P t] (hn : Nat.blt d X.n = true) (hx : evs sl x = some (.m (.d (.sl rows)))) (hb : bytesO rows = some ns)
    (k : TF X ops rest ⟨(d, .m (.d (.str (strOfNums ns)))) :: sl, bx, H⟩ fun ees zz => postF (⟨some d, .m (.d (.str (strOfNums ns))), [], [], none, false, none⟩ :: ees) zz) : TF X ops (⟨some d, .convert s t x, ty, pos, af, none⟩ :: rest) ⟨sl, bx, H⟩ postF :=
  TF.cons (e := ⟨some d, .m (.d (.str (strOfNums ns))), [], [], none, false, none⟩) (StepF.quiet rfl rfl (blt_lt hn) fun st2 ag => op_b2s ((ag.ev (x := x) (by simp [Op.operands])).trans hx) hb) rfl k
theorem t_neg {x : Operand} {xt : Nat} {kk : IntKind} {n : Int} (hn : Nat.blt d X.n = true) (hx : evs sl x = some (.m (.d (.int kk n)))) (k : TL X ops rest ⟨(d, .m (.d (.int kk (kk.wrap (-n))))) :: sl, bx, H⟩ post) :
    TL X ops (⟨some d, .unOp .neg xt x, ty, pos, af, none⟩ :: rest) ⟨sl, bx, H⟩ post :=
  TL.o1 rfl rfl hn (op_neg hx) k

/-- a value of the heap, read as data -/
def viewV (H : Hp) : M → Option D
  | .d x => some x
  | .rsl i ver len => match H[i]? with
    | some (.row true ec v cs) => bif (Nat.beq v ver && Nat.blt 0 len) then (match chunk ec len cs with
      | some rows => some (.sl rows)
      | none => none) else none
    | _ => none
  | _ => none

theorem RM.view {σ : Sg} {Oo : Nat → Nat → Prop} (hi : HInv σ Oo) {m : M} {d : D} {v : Value} (h : RM σ m v) (hv : viewV σ.H m = some d) : RM σ (.d d) v := by
  cases h with
  | d h => simp [viewV] at hv; subst hv; exact .d h
  | rsl i ver len ad cap hle hcur =>
    simp only [viewV] at hv
    split at hv
    · rename_i ec v cs hH'
      cases hb : (Nat.beq v ver && Nat.blt 0 len) with
      | false => simp [hb] at hv
      | true =>
        simp only [hb, cond_true] at hv
        simp only [Bool.and_eq_true] at hb
        have e0 := Nat.eq_of_beq_eq_true hb.1
        subst e0
        have h0 := blt_lt hb.2
        split at hv
        · rename_i rows hc
          injection hv with hv; subst hv
          obtain ⟨e1, e2, arr, T, e3, e4⟩ := hcur true ec cs hH'
          subst e1
          obtain ⟨hec, arr1, T1, cap1, n1, h3, h4, h5, ⟨h6, hmax⟩, h7⟩ := hi.obj i _ hH'
          rw [e3] at h3; injection h3 with h3; injection h3 with e5 e6; subst e5; subst e6
          have hcap : cap1 = cap := Nat.eq_of_mul_eq_mul_right hec (by rw [← h4, ← e4])
          subst hcap
          have hnl : n1 = len := Nat.eq_of_mul_eq_mul_right hec (by rw [← h6, ← e2])
          subst hnl
          obtain ⟨k1, k2, k3⟩ := chunk_spec hc e2
          have hne : rows ≠ [] := by rintro rfl; simp at k1; omega
          have hnotown : ∀ o, o < cs.length → ¬ σ.O (σ.l i) o := by
            intro o ho hO
            rcases (hi.own _ _).1 hO with h8 | ⟨k, ob, h8, h9, h10⟩
            · exact hi.sep i _ hH' trivial o h8
            · have := hi.inj k i ob _ h8 hH' (Ob.live_of_owns h10) trivial h9
              subst this
              rw [hH'] at h8; injection h8 with h8; subst h8
              simp only [Ob.owns] at h10
              rcases h10 with h10 | h10
              · cases h10
              · omega
          have hbound : ∀ i j, i < rows.length → j < ec → i * ec + j < cs.length := by
            intro i j hi hj
            rw [e2, ← k1]
            calc i * ec + j < i * ec + ec := by omega
              _ = (i + 1) * ec := by rw [Nat.succ_mul]
              _ ≤ rows.length * ec := Nat.mul_le_mul_right _ hi
          have hsz : cs.length ≤ arr.size := by rw [e2, e4]; exact Nat.mul_le_mul_right _ h5
          have hcellsD : ∀ i j, i < rows.length → j < ec → ∃ r d, rows[i]? = some r ∧ r[j]? = some d ∧ cs[i * ec + j]? = some (.d d) := by
            intro i j hi hj
            have hr : rows[i].length = ec := k2 _ (List.getElem_mem hi)
            have g1 : rows[i]? = some rows[i] := by simp [hi]
            have g2 : rows[i][j]? = some ((rows[i])[j]'(by rw [hr]; exact hj)) := by simp [hr, hj]
            exact ⟨rows[i], _, g1, g2, k3 i j _ _ g1 g2⟩
          have := Rep.sl (O := σ.O) (w := σ.w) rows (σ.l i) 0 cap1 ec (fun i j => arr.getD (i * ec + j) Go.undef) hne (by omega) (by omega) k2 ?_ ?_ ?_
          · rw [k1] at this; exact .d this
          · intro i' j hi' hj
            rw [Nat.zero_add]
            refine ⟨?_, hnotown _ (hbound i' j hi' hj)⟩
            have := hbound i' j hi' hj
            simp [cellv, World.cell?, e3, show i' * ec + j < arr.size by omega]
          · intro i' j hi' hj
            obtain ⟨r, d, _, _, hcd⟩ := hcellsD i' j hi' hj
            have hlt := hbound i' j hi' hj
            exact (h7 _ _ (arr.getD (i' * ec + j) Go.undef) hcd (by simp [show i' * ec + j < arr.size by omega])).2
          · intro i' j r d hr hd
            have hcd := k3 i' j r d hr hd
            have hlt : i' * ec + j < cs.length := by rcases Nat.lt_or_ge (i' * ec + j) cs.length with h | h; exact h; simp [List.getElem?_eq_none h] at hcd
            have := (h7 _ _ (arr.getD (i' * ec + j) Go.undef) hcd (by simp [show i' * ec + j < arr.size by omega])).1
            cases this with
            | d h => exact h
        · cases hv
    · cases hv
  | _ => simp [viewV] at hv

/-- all cells, read as data -/
def viewAll (H : Hp) : List M → Option (List M)
  | [] => some []
  | m :: r => match viewV H m, viewAll H r with
    | some d, some ms => some (.d d :: ms)
    | _, _ => none
theorem RMc.view {σ : Sg} {Oo : Nat → Nat → Prop} (hi : HInv σ Oo) {cs cs' : List M} {vs : Array Value} (h : RMc σ cs vs) (hv : viewAll σ.H cs = some cs') : RMc σ cs' vs := by
  have key : ∀ (cs cs' : List M), viewAll σ.H cs = some cs' → cs'.length = cs.length ∧ ∀ (i : Nat) m', cs'[i]? = some m' → ∃ m d, cs[i]? = some m ∧ viewV σ.H m = some d ∧ m' = .d d := by
    intro cs
    induction cs with
    | nil => intro cs' h; simp [viewAll] at h; subst h; simp
    | cons m r ih =>
      intro cs' h
      simp only [viewAll] at h
      split at h
      · rename_i d ms h1 h2
        injection h with h; subst h
        obtain ⟨h3, h4⟩ := ih ms h2
        refine ⟨by simp [h3], fun i m' hm => ?_⟩
        cases i with
        | zero => simp at hm; subst hm; exact ⟨m, d, by simp, h1, rfl⟩
        | succ i => simp at hm; obtain ⟨a, b, c, e, f⟩ := h4 i m' hm; exact ⟨a, b, by simpa using c, e, f⟩
      · cases h
  obtain ⟨h1, h2⟩ := key cs cs' hv
  refine ⟨by rw [h.1, h1], fun i m' v hm hvv => ?_⟩
  obtain ⟨m, d, h3, h4, rfl⟩ := h2 i m' hm
  exact ⟨(h.2 i m v h3 hvv).1.view hi h4, (h.2 i m v h3 hvv).2⟩

/-- a variable of the frame's own, all of it read as data -/
theorem Inv.viewBox {a : Act} {w : World} {t : Nat} {cs cs' : List M} (h : Inv X ⟨sl, bx, H⟩ a w) (hb : get bx t = some cs) (hv : viewAll H cs = some cs') : Inv X ⟨sl, (t, cs') :: bx, H⟩ a w := by
  obtain ⟨σ, lam, rfl, hi⟩ := h
  have hH : σ.H = H := hi.hH
  obtain ⟨arr, T, h1, h2⟩ := hi.box t cs hb
  have hdom : ∀ u ds, get ((t, cs') :: bx) u = some ds → ∃ ds', get bx u = some ds' := by
    intro u ds h1
    rcases get_cons_eq h1 with ⟨rfl, rfl⟩ | ⟨h3, h4⟩
    · exact ⟨cs, hb⟩
    · exact ⟨ds, h4⟩
  have hoof : ∀ b o, Oof X.Oout lam ((t, cs') :: bx) b o ↔ Oof X.Oout lam bx b o := by
    intro b o
    constructor
    · rintro (h1 | ⟨u, ds, h1, h2⟩)
      · exact .inl h1
      · obtain ⟨ds', h3⟩ := hdom u ds h1; exact .inr ⟨u, ds', h3, h2⟩
    · rintro (h1 | ⟨u, ds, h1, h2⟩)
      · exact .inl h1
      · by_cases e : t = u
        · subst e; exact .inr ⟨t, cs', by simp [get_cons], h2⟩
        · exact .inr ⟨u, ds, by simp [get_cons, e, h1], h2⟩
  refine ⟨σ, lam, rfl, hi.hH, hi.defers, hi.size, hi.slot, ?_, ?_, ?_, ?_, ?_, hi.mono, hi.blk⟩
  · intro u ds h3
    rcases get_cons_eq h3 with ⟨rfl, rfl⟩ | ⟨_, h4⟩
    · exact ⟨arr, T, h1, h2.view hi.hinv (by rw [hH]; exact hv)⟩
    · exact hi.box u ds h4
  · intro u v ds es h3 h4 h5
    obtain ⟨_, h6⟩ := hdom u ds h3
    obtain ⟨_, h7⟩ := hdom v es h4
    exact hi.binj u v _ _ h6 h7 h5
  · intro u ds h3; obtain ⟨_, h6⟩ := hdom u ds h3; exact hi.bsep u _ h6
  · intro u ds h3; obtain ⟨_, h6⟩ := hdom u ds h3; exact hi.bnew u _ h6
  · exact ⟨hi.hinv.obj, hi.hinv.inj, fun b o => by rw [hoof]; exact hi.hinv.own b o, fun i ob h1 h2 o h3 => hi.hinv.sep i ob h1 h2 o ((hoof _ _).1 h3), fun b o h3 => hi.hinv.old b o ((hoof _ _).1 h3)⟩
theorem TL.viewBox (t : Nat) {l : List Oper} {cs cs' : List M} (hb : get bx t = some cs) (hv : viewAll H cs = some cs') (k : TL X ops l ⟨sl, (t, cs') :: bx, H⟩ post) : TL X ops l ⟨sl, bx, H⟩ post :=
  fun a w hi => k a w (hi.viewBox hb hv)
theorem TC.viewBox (t : Nat) {c : Code} {q : Exit → St → Prop} {cs cs' : List M} (hb : get bx t = some cs) (hv : viewAll H cs = some cs') (k : TC X c ⟨sl, (t, cs') :: bx, H⟩ q) : TC X c ⟨sl, bx, H⟩ q :=
  fun a w hi => k a w (hi.viewBox hb hv)
theorem Inv.viewSlot {a : Act} {w : World} {t : Nat} {m : M} {x : D} (h : Inv X ⟨sl, bx, H⟩ a w) (hb : get sl t = some (.m m)) (hv : viewV H m = some x) : Inv X ⟨(t, .m (.d x)) :: sl, bx, H⟩ a w := by
  obtain ⟨σ, lam, rfl, hi⟩ := h
  have hH : σ.H = H := hi.hH
  refine ⟨σ, lam, rfl, hi.hH, hi.defers, hi.size, ?_, hi.box, hi.binj, hi.bsep, hi.bnew, hi.hinv, hi.mono, hi.blk⟩
  intro u v h3
  rcases get_cons_eq h3 with ⟨rfl, rfl⟩ | ⟨_, h4⟩
  · obtain ⟨z, h5, h6⟩ := hi.slot u _ hb
    cases h6 with
    | m h6 => exact ⟨z, h5, .m (h6.view hi.hinv (by rw [hH]; exact hv))⟩
  · exact hi.slot u v h4
theorem TL.viewSlot (t : Nat) {l : List Oper} {m : M} {x : D} (hb : get sl t = some (.m m)) (hv : viewV H m = some x) (k : TL X ops l ⟨(t, .m (.d x)) :: sl, bx, H⟩ post) : TL X ops l ⟨sl, bx, H⟩ post :=
  fun a w hi => k a w (hi.viewSlot hb hv)
theorem TC.viewSlot (t : Nat) {c : Code} {q : Exit → St → Prop} {m : M} {x : D} (hb : get sl t = some (.m m)) (hv : viewV H m = some x) (k : TC X c ⟨(t, .m (.d x)) :: sl, bx, H⟩ q) : TC X c ⟨sl, bx, H⟩ q :=
  fun a w hi => k a w (hi.viewSlot hb hv)
end rules

/-- an accumulator: nothing yet, or a row of the heap that is only appended to -/
def Acc (n i : Nat) (rs : List (List D)) (m : M) (H : Hp) : Prop :=
  (rs = [] ∧ m = .d (.sl [])) ∨ (rs ≠ [] ∧ ∃ ver, m = .rsl i ver rs.length ∧ H[i]? = some (.row true n ver (flatM rs)))
theorem Acc.view {n i : Nat} {rs : List (List D)} {m : M} {H : Hp} (h : Acc n i rs m H) (hl : ∀ r ∈ rs, r.length = n) : viewV H m = some (.sl rs) := by
  rcases h with ⟨rfl, rfl⟩ | ⟨h0, ver, rfl, h1⟩
  · rfl
  · have hp : Nat.blt 0 rs.length = true := by rw [Nat.blt_eq]; cases rs; exact absurd rfl h0; simp
    have hc : chunk n rs.length (flatM rs) = some rs := chunk_flat hl
    simp [viewV, h1, hp, hc]
end Go.Mt
