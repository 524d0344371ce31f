/- A part of the proof of the last text of this claim, without conditions. -/
import Derived.Tactics
import Derived.Orders
import Derived.Deep.LoopGhost
import Derived.Below
import Derived.WalkKit
set_option maxRecDepth 4000
set_option linter.all false
namespace Go
theorem W.{u}{α:Sort u}{a:α}:a=a:=rfl
abbrev aqd:=@Nat.le_refl
abbrev aqe:=@Int.natCast_nonneg
abbrev aqf:=@List.getElem?_append_left
abbrev aqg:=@List.length_append
abbrev aqh:=@Nat.lt_or_ge
abbrev aqi:=@List.getElem?_eq_getElem
abbrev aqj:=@List.getElem?_eq_none
abbrev aqk:=@List.mem_of_getElem?
abbrev aql:=@List.mem_append
abbrev aqm:=@List.getElem?_append_right
abbrev aqn:=@List.getElem?_set_ne
abbrev aqo:=@if_neg
abbrev aqp:=@List.mem_singleton
abbrev aqq:=@List.mem_append_left
abbrev aqr:=@Nat.eq_of_beq_eq_true
abbrev aqs:=@List.mem_cons
abbrev aqt:=@List.mem_append_right
abbrev aqu:=@List.take_succ_eq_append_getElem
abbrev aqv:=@of_decide_eq_true
abbrev aqw:=@List.length_cons
abbrev aqx:=@List.not_mem_nil
abbrev aqy:=@if_pos
abbrev aqz:=@List.getElem_mem
abbrev aqA:=@of_decide_eq_false
abbrev aqB:=@Bool.and_eq_true
abbrev aqC:=@List.append_nil
abbrev aqD:=@List.append_assoc
abbrev aqE:=@List.length_map
abbrev aqF:=@List.mem_cons_of_mem
abbrev aqG:=@List.mem_iff_getElem?
abbrev aqH:=@List.length_singleton
abbrev aqI:=@decide_eq_true
abbrev aqJ:=@Nat.eq_zero_or_pos
abbrev aqK:=@List.nil_append
abbrev aqL:=@List.getElem?_map
abbrev aqM:=@List.mem_map
abbrev aqN:=@List.map_cons
abbrev aqO:=@List.map_append
abbrev aqP:=@List.mem_cons_self
abbrev aqQ:=@List.take_length
abbrev aqR:=@decide_eq_false
abbrev aqS:=@List.length_nil
abbrev aqT:=@Array.getElem?_eq_none
abbrev aqU:=@List.mem_map_of_mem
abbrev aqV:=@beq_eq_false_iff_ne
abbrev aqW:=@Nat.mul_le_mul_right
abbrev aqX:=@cond_true
abbrev aqY:=@Nat.zero_le
abbrev aqZ:=@List.getElem?_set_self
abbrev aq0:=@Nat.lt_succ_iff_lt_or_eq
abbrev aq1:=@Nat.le_trans
abbrev aq2:=@List.findIdx?_eq_some_iff_getElem
abbrev aq3:=@List.map_congr_left
abbrev aq4:=@List.eq_nil_of_length_eq_zero
abbrev aq5:=@Nat.le_of_ble_eq_true
abbrev aq6:=@Classical.byContradiction
abbrev aq7:=@Ne.symm
abbrev aq8:=@List.nodup_append
abbrev aq9:=@or_false
abbrev ara:=@Array.getElem?_setIfInBounds_ne
abbrev arb:=@List.drop_eq_getElem_cons
abbrev arc:=@Nat.ble_eq_true_of_le
abbrev ard:=@Nat.lt_of_lt_of_le
abbrev are:=@Bool.false_eq_true
abbrev arf:=@List.map_nil
abbrev arh:=@Option.map_eq_some_iff
abbrev ari:=@Iff.rfl
abbrev arj:=@List.take_of_length_le
abbrev ark:=@Prod.mk.inj
abbrev arl:=@List.cons_append
abbrev arn:=@Bool.not_eq_true'
abbrev aro:=@Nat.add_sub_cancel_left
abbrev arp:=@Bool.not_eq_true
abbrev arq:=@List.set_append_right
abbrev ars:=@List.foldl_cons
abbrev art:=@Nat.eq_of_mul_eq_mul_right
abbrev aru:=@List.mem_singleton_self
abbrev arv:=@Option.some.injEq
abbrev arw:=@List.take_append_drop
abbrev arx:=@Nat.lt_trichotomy
abbrev ary:=@List.getElem?_concat_length
abbrev arz:=@List.all_eq_true
abbrev arA:=@Nat.pow_succ
abbrev arB:=@List.findIdx?_eq_none_iff
abbrev arC:=@Array.getElem?_replicate
abbrev arD:=@Int.ofNat_lt
abbrev arE:=@Nat.le_mul_of_pos_right
abbrev arF:=@Nat.zero_add
abbrev arG:=@Array.getElem?_extract
abbrev arH:=@Array.getElem?_append_left
abbrev arI:=@congrArg
abbrev arJ:=@List.getD_eq_getElem?_getD
abbrev arK:=@if_false
abbrev arL:=@List.length_replicate
abbrev arM:=@List.length_filter_le
abbrev arN:=@Classical.choose_spec
abbrev arO:=@List.drop_length
abbrev arP:=@Nat.succ_mul
abbrev arQ:=@List.nodup_nil
abbrev arR:=@if_true
abbrev arS:=@cond_false
abbrev arT:=@Nat.le_add_right
abbrev arU:=@List.mem_range
abbrev arV:=@Nat.add_zero
abbrev arW:=@List.flatten_append
abbrev arX:=@List.length_take
abbrev arY:=@List.filter_cons_of_pos
abbrev arZ:=@List.filter_cons_of_neg
abbrev ar0:=@Nat.add_mul
abbrev ar1:=@Nat.mul_add
abbrev ar2:=@Bool.or_eq_true
abbrev ar3:=@Array.getElem?_append_right
abbrev ar4:=@List.ext_getElem?
abbrev ar5:=@Nat.mod_lt
abbrev ar6:=@beq_iff_eq
abbrev ar7:=@List.any_eq_true
abbrev ar8:=@List.map_toArray
abbrev ar9:=@Array.getElem?_push
abbrev asa:=@List.take_succ_cons
abbrev asb:=@Nat.add_lt_add_left
abbrev asc:=@List.getElem?_take_of_lt
abbrev asd:=@Nat.add_assoc
abbrev ase:=@List.getElem_append_left
abbrev asf:=@Option.isSome_iff_exists
abbrev asg:=@Nat.min_eq_left
abbrev ash:=@Option.map_some
abbrev asi:=@Nat.mul_eq_zero
abbrev asj:=@List.mem_filter
abbrev asl:=@List.nodup_cons
abbrev asm:=@Array.ext_getElem?
abbrev asn:=@List.getElem?_drop
abbrev aso:=@List.getElem?_take
abbrev asp:=@decide_eq_false_iff_not
abbrev asq:=@Array.getElem?_setIfInBounds_self
abbrev asr:=@Nat.sub_self
abbrev ass:=@List.getElem?_inj
abbrev ast:=@not_false_eq_true
abbrev asu:=@Array.getElem?_modify
abbrev asv:=@List.sizeOf_lt_of_mem
abbrev asw:=@ByteArray.data_append
abbrev asx:=@List.drop_append_of_le_length
abbrev asy:=@Bool.eq_iff_iff
abbrev asz:=@List.foldr_cons
abbrev asA:=@List.length_pos_iff
abbrev asB:=@Array.toList_append
abbrev asC:=@Nat.mul_le_mul_left
abbrev asD:=@Nat.beq_refl
abbrev asE:=@Nat.mul_zero
abbrev asF:=@List.mapM_cons
abbrev asG:=@List.foldl_nil
abbrev asH:=@Array.mapM_eq_mapM_toList
abbrev asI:=@List.getElem_append_right
abbrev asJ:=@List.mem_of_find?_eq_some
abbrev asK:=@List.foldl_append
abbrev asL:=@Array.size_append
abbrev asM:=@List.findIdx?_map
abbrev asN:=@List.map_take
abbrev asO:=@Option.bind_some
abbrev asP:=@List.getElem?_replicate
abbrev asQ:=@Nat.lt_of_not_le
abbrev asR:=@Int.eq_ofNat_of_zero_le
abbrev asS:=@Nat.min_eq_right
abbrev asT:=@List.drop_eq_nil_of_le
abbrev asU:=@List.filter_eq_nil_iff
abbrev asV:=@dif_pos
abbrev asW:=@Array.map_empty
abbrev asX:=@Array.getElem?_append
abbrev asY:=@List.getElem?_toArray
abbrev asZ:=@Array.mem_iff_getElem
abbrev as0:=@List.eq_nil_or_concat
abbrev as1:=@Int.le_refl
abbrev as2:=@List.take_take
abbrev as3:=@dif_neg
abbrev as4:=@Bool.and_self
abbrev as5:=@Nat.mul_assoc
abbrev as6:=@Nat.mul_comm
abbrev as7:=@List.all_map
abbrev as8:=@Nat.le_of_lt
abbrev as9:=@List.map_map
end Go
namespace Go.Mt
inductive D where
 |int (k:IntKind) (n:Int)
 |bool (b:Bool)
 |str (s:ByteArray)
 |sl (rows:List (List D))
 |o8
 |agg (cs:List D)
 |aZ (cs:List D) (off:Nat)
 |fn (f:Nat) (cap:List D)
 |bQ|pT|wV|oA
 |FO (t:Nat) (d:D)
 deriving Inhabited
inductive M where
 |d (x:D)
 |ref (i off:Nat)
 |bB (i aG len:Nat)
 |dX (i aG off:Nat)
 |mp (i:Nat)
 |it (i:Nat)
 |agg (cs:List M)
 |fn (f:Nat) (cap:List M)
 |cZ (vs:List M)
 |undef
 deriving Inhabited
inductive V where
 |m (x:M)
 |loc (t off:Nat)
 |tl (j aG off len:Nat)
 deriving Inhabited
inductive Ob where
 |box (cs:List M)
 |row (acc:Bool) (ec aG:Nat) (cs:List M)
 |map (es:List (D×M))
 |iter (x:M)
 |dead
 |free
 deriving Inhabited
abbrev Hp:=List Ob
def get{α:Type} :List (Nat×α)->Nat->Option α
 | [],_=>none
 |(k,v)::r,t=>bif Nat.beq k t then some v else get r t
def del{α:Type} :List (Nat×α)->Nat->List (Nat×α)
 | [],_=>[]
 |(k,v)::r,t=>bif Nat.beq k t then del r t else(k,v)::del r t
structure St where
 sl:List (Nat×V)
 bx:List (Nat×List M)
 H:Hp
def tw(P:Program)(t:Nat):Option Bool:=
 match P.underlying t with
 |some (.struct _)=>some true
 |some (.array _ _)=>some true
 |some _=>some false
 |none=>none
def fu(P:Program)(t:Nat):Option Nat:=(P.info? t).map (·.size)
def uh(P:Program)(t:Nat):Option Nat:=(P.info? t).map (·.bytes)
def pU:Value->Option D
 | .int k n=>some (.int k n)
 | .bool b=>some (.bool b)
 | .string s=>some (.str s)
 | .slice none 0 0=>some (.sl [])
 | .pointer none=>some .bQ
 | .nilFunc=>some .pT
 | .nilIface=>some .wV
 | .map none=>some .oA
 |_=>none
def lg:List Value->Option (List D)
 | []=>some []
 |v::r=>match pU v,lg r with
  |some d,some ds=>some (d::ds)
  |_,_=>none
def qu:Value->Option D
 | .agg cs=>match lg cs.toList with
  |some ds=>some (.agg ds)
  |none=>none
 |v=>pU v
def sU(P:Program)(t:Nat):Option D:=
 match P.info? t with
 |some i=>match i.zero with
  |some v=>qu v
  |none=>none
 |none=>none
def bj(sl:List (Nat×V)):Operand->Option V
 | .tmp t=>get sl t
 | .const v=>match qu v with
  |some d=>some (.m (.d d))
  |none=>none
 | .func f=>some (.m (.d (.fn f [])))
 | .global _=>none
def St.ev(s:St)(x:Operand):Option V:=bj s.sl x
def bf:D->List D
 | .agg cs=>cs
 |d=>[d]
def cellsOf:M->List M
 | .d x=>(bf x).map .d
 | .agg cs=>cs
 |m=>[m]
def j9:List M->Option (List D)
 | []=>some []
 | .d x::r=>(j9 r).map (x:: ·)
 |_=>none
def pack(cs:List M):M:=
 match j9 cs with
 |some ds=> .d (.agg ds)
 |none=> .agg cs
def gu(P:Program)(t:Nat)(cs:List M)(off:Nat):Option M:=
 match tw P t,fu P t with
 |some true,some n=>bif Nat.ble (off+n) cs.length then some (pack ((cs.drop off).take n))else none
 |some false,_=>cs[off]?
 |_,_=>none
def rH(P:Program)(t:Nat)(cs:List D)(off:Nat):Option D:=
 match tw P t,fu P t with
 |some true,some n=>bif Nat.ble (off+n) cs.length then some (.agg ((cs.drop off).take n))else none
 |some false,_=>cs[off]?
 |_,_=>none
def dI(cs:List M)(off:Nat)(new:List M):Option (List M):=
 bif Nat.ble (off+new.length) cs.length then some (cs.take off++new++cs.drop (off+new.length))else none
def chunk(ec:Nat):Nat->List M->Option (List (List D))
 |0,[]=>some []
 |0,_=>none
 |n+1,cs=>match j9 (cs.take ec),chunk ec n (cs.drop ec)with
  |some r,some rs=>some (r::rs)
  |_,_=>none
def flat:Value->Bool
 | .agg _=>false
 | .tuple _=>false
 |_=>true
abbrev dY(w:World)(b o:Nat):Option Value:=w.cell? ⟨b,o,none⟩
inductive gd(O:Nat->Nat->Prop)(w:World):D->Value->Prop where
 |int (k:IntKind) (n:Int):gd O w (.int k n) (.int k n)
 |bool (b:Bool):gd O w (.bool b) (.bool b)
 |str (s:ByteArray):gd O w (.str s) (.string s)
 |slnil (a:Option Addr):gd O w (.sl []) (.slice a 0 0)
 |sl (rows:List (List D)) (b o cap ec:Nat) (val:Nat->Nat->Value) (h0:rows≠ []) (OV:rows.length<=cap) (Nr:rows.length<=140737488355328)
   (P3: ∀r∈rows,r.length=ec)
   (M5: ∀i j,i<rows.length->j<ec->dY w b (o+(i*ec+j))=some (val i j)/\ ¬O b (o+(i*ec+j)))
   (NY: ∀i j,i<rows.length->j<ec->flat (val i j)=true)
   (NZ: ∀i j r d,rows[i]?=some r->r[j]?=some d->gd O w d (val i j)):
   gd O w (.sl rows) (.slice (some ⟨b,o,none⟩) rows.length cap)
 |o8 (a:Option Addr) (cap:Nat):gd O w .o8 (.slice a 0 cap)
 |agg (cs:List D) (vs:Array Value) (hl:vs.size=cs.length) (hf: ∀(i:Nat) (v:Value),vs[i]?=some v->flat v=true) (h: ∀(i:Nat) (d:D) (v:Value),cs[i]?=some d->vs[i]?=some v->gd O w d v):gd O w (.agg cs) (.agg vs)
 |aZ (cs:List D) (off b o:Nat) (val:Nat->Value)
   (M5: ∀i,i<cs.length->dY w b (o+i)=some (val i)/\ ¬O b (o+i))
   (NY: ∀i,i<cs.length->flat (val i)=true)
   (NZ: ∀i d,cs[i]?=some d->gd O w d (val i)):gd O w (.aZ cs off) (.pointer (some ⟨b,o+off,none⟩))
 |fn (f:Nat) (cs:List D) (vs:Array Value) (hl:vs.size=cs.length) (h: ∀(i:Nat) (d:D) (v:Value),cs[i]?=some d->vs[i]?=some v->gd O w d v):gd O w (.fn f cs) (.func (.func f) #[] vs)
 |bQ:gd O w .bQ (.pointer none)
 |pT:gd O w .pT .nilFunc
 |wV:gd O w .wV .nilIface
 |oA:gd O w .oA (.map none)
 |FO (t:Nat) (d:D) (v:Value) (h:gd O w d v):gd O w (.FO t d) (.iface t v)
theorem gd.mono{O p:Nat->Nat->Prop}{w w':World}(q: ∀b c v,dY w b c=some v-> ¬O b c->dY w' b c=some v/\ ¬p b c)
  {d:D} {v:Value} (h:gd O w d v):gd p w' d v:=by
 induction h with
 |int s t=>exact .int s t
 |bool b=>exact .bool b
 |str u=>exact .str u
 |slnil j=>exact .slnil j
 |sl I b c n z val A B C E f k F a=>
  exact .sl I b c n z val A B C E (λe o g r=>q _ _ _ (f e o g r).1 (f e o g r).2) k a
 |o8 j n=>exact .o8 j n
 |agg i l m G h a=>exact .agg i l m G a
 |aZ i H b c val f k F a=>exact .aZ i H b c val (λe g=>q _ _ _ (f e g).1 (f e g).2) k a
 |fn x i l m h a=>exact .fn x i l m a
 |bQ=>exact .bQ
 |pT=>exact .pT
 |wV=>exact .wV
 |oA=>exact .oA
 |FO y d v h a=>exact .FO y d v a
structure Sg where
 w:World
 O:Nat->Nat->Prop
 l:Nat->Nat
 H:Hp
inductive RM(σ:Sg):M->Value->Prop where
 |d {x:D} {v:Value} (h:gd σ.O σ.w x v):RM σ (.d x) v
 |ref (i off:Nat) (cs:List M) (h:σ.H[i]?=some (.box cs)):RM σ (.ref i off) (.pointer (some ⟨σ.l i,off,none⟩))
 |bB (i aG len:Nat) (a:Option Addr) (cap:Nat)
   (hle:σ.H[i]?=some .dead\/ ∃acc ec Nn cs,σ.H[i]?=some (.row acc ec Nn cs)/\aG<=Nn)
   (N6: ∀acc ec cs,σ.H[i]?=some (.row acc ec aG cs)->a=some ⟨σ.l i,0,none⟩/\cs.length=len*ec/\ ∃MI T,σ.w.heap[σ.l i]?=some (.cells MI T (0,0))/\MI.size=cap*ec):
   RM σ (.bB i aG len) (.slice a len cap)
 |dX (i aG off b:Nat)
   (hle:σ.H[i]?=some .dead\/ ∃acc ec Nn cs,σ.H[i]?=some (.row acc ec Nn cs)/\aG<=Nn)
   (N6: ∀acc ec cs,σ.H[i]?=some (.row acc ec aG cs)->b=σ.l i):RM σ (.dX i aG off) (.pointer (some ⟨b,off,none⟩))
 |mp (i:Nat) (es:List (D×M)) (h:σ.H[i]?=some (.map es)):RM σ (.mp i) (.map (some (σ.l i)))
 |it (i:Nat) (x:M) (h:σ.H[i]?=some (.iter x)):RM σ (.it i) (.pointer (some ⟨σ.l i,0,none⟩))
 |agg (cs:List M) (vs:Array Value) (hl:vs.size=cs.length) (hf: ∀(i:Nat) (v:Value),vs[i]?=some v->flat v=true) (h: ∀(i:Nat) (m:M) (v:Value),cs[i]?=some m->vs[i]?=some v->RM σ m v):RM σ (.agg cs) (.agg vs)
 |fn (f:Nat) (cs:List M) (vs:Array Value) (hl:vs.size=cs.length) (h: ∀(i:Nat) (m:M) (v:Value),cs[i]?=some m->vs[i]?=some v->RM σ m v):RM σ (.fn f cs) (.func (.func f) #[] vs)
 |cZ (cs:List M) (vs:Array Value) (hl:vs.size=cs.length) (h: ∀(i:Nat) (m:M) (v:Value),cs[i]?=some m->vs[i]?=some v->RM σ m v):RM σ (.cZ cs) (.tuple vs)
 |undef (v:Value):RM σ .undef v
structure dy(σ τ:Sg):Prop where
 cell: ∀b o v,dY σ.w b o=some v-> ¬σ.O b o->dY τ.w b o=some v/\ ¬τ.O b o
 box: ∀(i:Nat) cs,σ.H[i]?=some (.box cs)->(∃MY,τ.H[i]?=some (.box MY))/\τ.l i=σ.l i
 map: ∀(i:Nat) es,σ.H[i]?=some (.map es)->(∃QI,τ.H[i]?=some (.map QI))/\τ.l i=σ.l i
 iter: ∀(i:Nat) x,σ.H[i]?=some (.iter x)->(∃x',τ.H[i]?=some (.iter x'))/\τ.l i=σ.l i
 dead: ∀i:Nat,σ.H[i]?=some .dead->τ.H[i]?=some .dead
 row: ∀(i:Nat) acc ec aG cs,σ.H[i]?=some (.row acc ec aG cs)->τ.H[i]?=some .dead\/ ∃O9 Nn MY,τ.H[i]?=some (.row O9 ec Nn MY)/\aG<=Nn/\
  (Nn=aG->τ.l i=σ.l i/\MY.length=cs.length/\ ∀MI T,σ.w.heap[σ.l i]?=some (.cells MI T (0,0))-> ∃NR,τ.w.heap[σ.l i]?=some (.cells NR T (0,0))/\NR.size=MI.size)
 free: ∀i:Nat,σ.H[i]?=some .free-> ∃ob,τ.H[i]?=some ob
theorem dy.refl(σ:Sg):dy σ σ:=
 ⟨λ_ _ _ a d=>⟨a,d⟩,λ_ b a=>⟨⟨b,a⟩,rfl⟩,λ_ e a=>⟨⟨e,a⟩,rfl⟩,λ_ c a=>⟨⟨c,a⟩,rfl⟩,λ_ a=>a,
 λ_ h j f b a=> .inr ⟨h,f,b,a,aqd _,λ_=>⟨rfl,rfl,λg i a=>⟨g,a,rfl⟩⟩⟩,λ_ a=>⟨_,a⟩⟩
theorem dy.has{σ τ:Sg}(h:dy σ τ)(i:Nat)(ob:Ob)(hi:σ.H[i]?=some ob): ∃NH,τ.H[i]?=some NH:=by
 cases ob with
 |box b=>obtain⟨⟨c,a⟩,_⟩:=h.box i b hi;exact⟨_,a⟩
 |map b=>obtain⟨⟨c,a⟩,_⟩:=h.map i b hi;exact⟨_,a⟩
 |iter b=>obtain⟨⟨c,a⟩,_⟩:=h.iter i b hi;exact⟨_,a⟩
 |dead=>exact⟨_,h.dead i hi⟩
 |free=>exact h.free i hi
 |row f d e b=>
  rcases h.row i f d e b hi with a|⟨_,_,_,a,_⟩
  ·exact⟨_,a⟩
  ·exact⟨_,a⟩
theorem dy.trans{σ τ o:Sg}(h:dy σ τ)(k:dy τ o):dy σ o:=by
 refine⟨?_,?_,?_,?_,?_,?_,λa c=>let⟨x,d⟩:=h.free a c;k.has a x d⟩
 ·intro b p v c d;obtain⟨e,f⟩:=h.cell b p v c d;exact k.cell b p v e f
 ·intro a g c;obtain⟨⟨i,e⟩,f⟩:=h.box a g c;obtain⟨j,l⟩:=k.box a i e;exact⟨j,l.trans f⟩
 ·intro a g c;obtain⟨⟨i,e⟩,f⟩:=h.map a g c;obtain⟨j,l⟩:=k.map a i e;exact⟨j,l.trans f⟩
 ·intro a g c;obtain⟨⟨i,e⟩,f⟩:=h.iter a g c;obtain⟨j,l⟩:=k.iter a i e;exact⟨j,l.trans f⟩
 ·exactλa c=>k.dead a (h.dead a c)
 ·intro a T r s g c;rcases h.row a T r s g c with d|⟨y,m,i,d,z,A⟩
  ·exact .inl (k.dead a d)
  ·rcases k.row a y r m i d with n|⟨B,t,C,n,D,E⟩
   ·exact .inl n
   ·refine .inr ⟨B,t,C,n,aq1 z D,λU=> ?_⟩;have F:m=s:=by omega
    have G:t=m:=by omega
    obtain⟨u,H,I⟩:=A F;obtain⟨J,K,w⟩:=E G;refine⟨J.trans u,K.trans H,λL q M=> ?_⟩;obtain⟨N,O,P⟩:=I L q M;rw[u]at w;obtain⟨Q,R,S⟩:=w N q O;exact⟨Q,R,S.trans P⟩
theorem RM.mono{σ τ:Sg}(p:dy σ τ){m:M}{v:Value}(h:RM σ m v):RM τ m v:=by
 have K: ∀(a g:Nat),(σ.H[a]?=some .dead\/ ∃j f n c,σ.H[a]?=some (.row j f n c)/\g<=n)->
   (τ.H[a]?=some .dead\/ ∃j f n c,τ.H[a]?=some (.row j f n c)/\g<=n):=by
  intro a g h;rcases h with h|⟨j,f,n,c,i,k⟩
  ·exact .inl (p.dead a h)
  ·rcases p.row a j f n c i with o|⟨E,B,F,o,t,_⟩
   ·exact .inl o
   ·exact .inr ⟨E,f,B,F,o,aq1 k t⟩
 have G: ∀(a g:Nat) j f c,(σ.H[a]?=some .dead\/ ∃j f n c,σ.H[a]?=some (.row j f n c)/\g<=n)->τ.H[a]?=some (.row j f g c)->
   ∃u r,σ.H[a]?=some (.row u f g r)/\τ.l a=σ.l a/\c.length=r.length/\ ∀z s,σ.w.heap[σ.l a]?=some (.cells z s (0,0))-> ∃A,τ.w.heap[σ.l a]?=some (.cells A s (0,0))/\A.size=z.size:=by
  intro a g j f c q l;rcases q with h|⟨H,ac,I,J,i,k⟩
  ·have:=p.dead a h;rw[this]at l;cases l
  ·rcases p.row a H ac I J i with o|⟨E,B,F,o,t,P⟩
   ·rw[o]at l;cases l
   ·rw[o]at l;injection l with l
    injection l with Q R S T
    subst Q;subst R;subst T;subst S;have e:I=B:=by omega
    subst e;obtain⟨U,V,X⟩:=P W;exact⟨H,J,i,U,V,X⟩
 induction h with
 |d h=>exact .d (h.mono p.cell)
 |ref a D c h=>
  obtain⟨⟨Y,i⟩,k⟩:=p.box a c h;rw[<-k];exact .ref a D Y i
 |bB a g co L d6 q C=>
  refine .bB a g co L d6 (K a g q) λj f c l=> ?_
  obtain⟨u,r,i,k,o,t⟩:=G a g j f c q l;obtain⟨Z,y2,z,s,y3,y4⟩:=C u f r i;obtain⟨A,y5,y6⟩:=t z s y3;rw[k];exact⟨Z,o.trans y2,A,s,y5,y6.trans y4⟩
 |dX a g D b q C=>
  refine .dX a g D b (K a g q) λj f c l=> ?_
  obtain⟨u,r,i,k,o,t⟩:=G a g j f c q l;rw[k];exact C u f r i
 |mp a es h=>
  obtain⟨⟨QI,i⟩,k⟩:=p.map a es h;rw[<-k];exact .mp a QI i
 |it a N h=>
  obtain⟨⟨x',i⟩,k⟩:=p.iter a N h;rw[<-k];exact .it a x' i
 |agg c w x hf h y=>exact .agg c w x hf y
 |fn O c w x h y=>exact .fn O c w x y
 |cZ c w x h y=>exact .cZ c w x y
 |undef v=>exact .undef v
def uj(σ:Sg)(ms:List M)(vs:Array Value):Prop:=
 vs.size=ms.length/\ ∀(i:Nat) (m:M) (v:Value),ms[i]?=some m->vs[i]?=some v->RM σ m v
def ki(σ:Sg)(ms:List M)(vs:Array Value):Prop:=
 vs.size=ms.length/\ ∀(i:Nat) (m:M) (v:Value),ms[i]?=some m->vs[i]?=some v->RM σ m v/\flat v=true
theorem ki.mono{σ τ:Sg}(e:dy σ τ){ms:List M}{b:Array Value}(h:ki σ ms b):ki τ ms b:=
 ⟨h.1,λa m v c d=>⟨(h.2 a m v c d).1.mono e,(h.2 a m v c d).2⟩⟩
def Ob.live:Ob->Prop
 | .dead=>False
 | .free=>False
 |_=>True
def Ob.jy:Ob->Nat->Prop
 | .box _,_=>True
 | .map _,_=>True
 | .iter _,_=>True
 | .row acc _ _ cs,o=>acc=false\/cs.length<=o
 | .dead,_=>False
 | .free,_=>False
theorem Ob.ji{ob:Ob}{o:Nat}(h:ob.jy o):ob.live:=by cases ob<;>first|trivial|exact h
def EM:D->Option Value
 | .str s=>some (.string s)
 | .int k n=>some (.int k n)
 |_=>none
def vg(σ:Sg)(e:D×M)(u:MapEntry):Prop:=(EM e.1=some u.key/\RM σ e.2 u.val)\/(e.1= .bQ/\RM σ e.2 (.tuple #[u.key,u.val]))
theorem vg.up{σ τ:Sg}{e:D×M}{m:M}{u:MapEntry}(h:vg σ e u)(c: ∀v,RM σ e.2 v->RM τ m v):vg τ (e.1,m) u:=by
 rcases h with⟨a,b⟩|⟨a,b⟩
 ·exact .inl ⟨a,c _ b⟩
 ·exact .inr ⟨a,c _ b⟩
def gf(σ:Sg)(b:Nat):Ob->Prop
 | .box cs=> ∃MI T,σ.w.heap[b]?=some (.cells MI T (0,0))/\ki σ cs MI
 | .row acc ec aG cs=>0<ec/\ ∃MI T cap n,σ.w.heap[b]?=some (.cells MI T (0,0))/\MI.size=cap*ec/\n<=cap/\(cs.length=n*ec/\n<=140737488355328)/\
   ∀(i:Nat) (m:M) (v:Value),cs[i]?=some m->MI[i]?=some v->RM σ m v/\flat v=true
 | .map es=> ∃PF clock,σ.w.heap[b]?=some (.map PF clock)/\PF.size=es.length/\ ∀(i:Nat) e u,es[i]?=some e->PF[i]?=some u->vg σ e u
 | .iter x=> ∃om since last,σ.w.heap[b]?=some (.mapIter om since #[] last)/\RM σ x (.map om)
 | .dead=>True
 | .free=>True
structure j_(σ:Sg)(Oo:Nat->Nat->Prop):Prop where
 obj: ∀(i:Nat) ob,σ.H[i]?=some ob->gf σ (σ.l i) ob
 inj: ∀(i j:Nat) x y,σ.H[i]?=some x->σ.H[j]?=some y->x.live->y.live->σ.l i=σ.l j->i=j
 own: ∀b o,σ.O b o↔Oo b o\/ ∃(i:Nat) (ob:Ob),σ.H[i]?=some ob/\σ.l i=b/\ob.jy o
 sep: ∀(i:Nat) ob,σ.H[i]?=some ob->ob.live-> ∀o,¬Oo (σ.l i) o
 lU: ∀b o,Oo b o->b<σ.w.heap.size
theorem gf.lt{σ:Sg}{b:Nat}{ob:Ob}(h:gf σ b ob)(g:ob.live):b<σ.w.heap.size:=by
 have d: ∀f:Obj,σ.w.heap[b]?=some f->b<σ.w.heap.size:=by
  intro f j;rcases aqh b σ.w.heap.size with h|h
  ·exact h
  ·simp[aqT h]at j
 cases ob with
 |box k=>obtain⟨l,i,a,_⟩:=h;exact d _ a
 |row q n o k=>obtain⟨_,l,i,r,m,a,_⟩:=h;exact d _ a
 |map p=>obtain⟨e,c,a,_⟩:=h;exact d _ a
 |iter f=>obtain⟨_,_,_,a,_⟩:=h;exact d _ a
 |dead=>exact g.elim
 |free=>exact g.elim
theorem j_.BU{σ:Sg}{d:Nat->Nat->Prop}(h:j_ σ d): ∀b o,σ.O b o->b<σ.w.heap.size:=by
 intro b o e;rcases(h.own b o).1 e with a|⟨c,f,a,g,i⟩
 ·exact h.lU b o a
 ·rw[<-g];exact(h.obj c f a).lt (Ob.ji i)
structure aW(σ τ:Sg):Prop where
 os:τ.w.os=σ.w.os
 output:τ.w.output=σ.w.output
 tape:τ.w.tape=σ.w.tape
 size:σ.w.heap.size<=τ.w.heap.size
 cp: ∀b,b<σ.w.heap.size->(∀(i:Nat) ob,σ.H[i]?=some ob->ob.live->σ.l i≠b)->τ.w.heap[b]?=σ.w.heap[b]?
 loc: ∀(i:Nat) ob,τ.H[i]?=some ob->ob.live->σ.w.heap.size<=τ.l i\/ ∃NH,σ.H[i]?=some NH/\NH.live/\τ.l i=σ.l i
theorem aW.refl(σ:Sg):aW σ σ:=⟨rfl,rfl,rfl,aqd _,λ_ _ _=>rfl,λd b a c=> .inr ⟨b,a,c,rfl⟩⟩
theorem aW.trans{σ τ m:Sg}(h:aW σ τ)(k:aW τ m):aW σ m:=by
 refine⟨k.os.trans h.os,k.output.trans h.output,k.tape.trans h.tape,aq1 h.size k.size,?_,?_⟩
 ·intro b n o;rw[k.cp b (ard n h.size) ?_,h.cp b n o];intro c e f g p;rcases h.loc c e f g with a|⟨i,a,j,d⟩
  ·omega
  ·exact o c i a j (by rw[<-d];exact p)
 ·intro c e f g;rcases k.loc c e f g with a|⟨i,a,j,d⟩
  ·exact .inl (aq1 h.size a)
  ·rcases h.loc c i a j with l|⟨s,l,q,r⟩
   ·exact .inl (by rw[d];exact l)
   ·exact .inr ⟨s,l,q,d.trans r⟩
inductive RV(σ:Sg)(MD:Nat->Nat):V->Value->Prop where
 |m {x:M} {v:Value} (h:RM σ x v):RV σ MD (.m x) v
 |loc (t off:Nat):RV σ MD (.loc t off) (.pointer (some ⟨MD t,off,none⟩))
 |tl (i aG off len:Nat) (a:Option Addr) (cap:Nat)
   (hle:σ.H[i]?=some .dead\/ ∃acc ec Nn cs,σ.H[i]?=some (.row acc ec Nn cs)/\aG<=Nn)
   (N6: ∀acc ec cs,σ.H[i]?=some (.row acc ec aG cs)->(cap≠0->a=some ⟨σ.l i,off*ec,none⟩)/\cs.length=(off+len)*ec/\ ∃MI T,σ.w.heap[σ.l i]?=some (.cells MI T (0,0))/\MI.size=(off+cap)*ec):
   RV σ MD (.tl i aG off len) (.slice a len cap)
theorem RV.mono{σ τ:Sg}{MD:Nat->Nat}(d:dy σ τ){x:V}{v:Value}(h:RV σ MD x v):RV τ MD x v:=by
 cases h with
 |m h=>exact .m (h.mono d)
 |loc z j=>exact .loc z j
 |tl c A j U B X u C=>
  refine .tl c A j U B X ?_ λw g l a=> ?_
  ·rcases u with h|⟨w,g,D,l,f,n⟩
   ·exact .inl (d.dead c h)
   ·rcases d.row c w g D l f with b|⟨o,i,p,b,q,_⟩
    ·exact .inl b
    ·exact .inr ⟨o,g,i,p,b,aq1 n q⟩
  ·rcases u with h|⟨r,y,s,t,f,n⟩
   ·have:=d.dead c h;rw[this]at a;cases a
   ·rcases d.row c r y s t f with b|⟨o,i,p,b,q,E⟩
    ·rw[b]at a;cases a
    ·rw[b]at a;injection a with a
     injection a with F G H I
     subst F;subst G;subst I;subst H;have e:s=i:=by omega
     subst e;obtain⟨J,K,L⟩:=E W;obtain⟨M,N,O,k,P,Q⟩:=C r y t f;obtain⟨R,S,T⟩:=L O k P;rw[J];exact⟨M,K.trans N,R,k,S,T.trans Q⟩
def nP(jF:Nat->Nat->Prop)(MD:Nat->Nat)(bx:List (Nat×List M))(b o:Nat):Prop:=
 jF b o\/ ∃t cs,get bx t=some cs/\MD t=b
structure bD where
 P:Program
 n:Nat
 s0:Sg
 jF:Nat->Nat->Prop
 df:List Deferred
structure cw(X:bD)(σ:Sg)(MD:Nat->Nat)(st:St)(a:Act):Prop where
 hH:σ.H=st.H
 defers:a.defers=X.df
 size:a.tmps.size=X.n
 slot: ∀t v,get st.sl t=some v-> ∃u,a.tmps[t]?=some u/\RV σ MD v u
 box: ∀t cs,get st.bx t=some cs->gf σ (MD t) (.box cs)
 rm: ∀t u cs ds,get st.bx t=some cs->get st.bx u=some ds->MD t=MD u->t=u
 rI: ∀t cs,get st.bx t=some cs-> ∀o,¬X.jF (MD t) o
 rJ: ∀t cs,get st.bx t=some cs->X.s0.w.heap.size<=MD t
 hinv:j_ σ (nP X.jF MD st.bx)
 mono:dy X.s0 σ
 cp:aW X.s0 σ
def Inv(X:bD)(st:St)(a:Act)(w:World):Prop:= ∃σ MD,σ.w=w/\cw X σ MD st a
def TC(X:bD)(c:Code)(st:St)(post:Exit->St->Prop):Prop:=
 ∀a w,Inv X st a w->c.wp X.P (λe a' w'=> ∃MJ,post e MJ/\Inv X MJ a' w') a w
def TL(X:bD)(ops:Array Oper)(l:List Oper)(st:St)(post:St->Prop):Prop:=
 ∀a w,Inv X st a w->wpList X.P ops (λe a' w'=>e= .normal/\ ∃MJ,post MJ/\Inv X MJ a' w') l a w
def after(post:Exit->St->Prop)(k:St->Prop):Exit->St->Prop
 | .normal,s=>k s
 |e,s=>post e s
section code
variable{X:bD}{st:St}{post:Exit->St->Prop}
theorem TC.mono{c:Code}{b:Exit->St->Prop}(h:TC X c st post)(g: ∀e a,post e a->b e a):TC X c st b:=
 λd f i=>wp_mono (h d f i) λe l m ⟨a,j,k⟩=>⟨a,g _ _ j,k⟩
theorem TC.seq{x y:Code}(h:TC X x st (after post λa=>TC X y a post)):TC X (.seq x y) st post:=by
 intro b c d;refine wp_seq (wp_mono (h b c d) ?_);intro e f g ⟨a,h1,h2⟩;cases e with
 |normal=>exact h1 f g h2
 |_=>exact⟨a,h1,h2⟩
theorem TC.skip(h:post .normal st):TC X .skip st post:= λb c a=>wp_skip ⟨st,h,a⟩
theorem TC.exit{a:Nat}(h:post (.exit a) st):TC X (.exit a) st post:= λc d b=>wp_exit ⟨st,h,b⟩
theorem TC.ret(h:post .ret st):TC X .ret st post:= λb c a=>wp_ret ⟨st,h,a⟩
def rK(id:Nat)(post:Exit->St->Prop):Exit->St->Prop
 | .exit i,s=>if i=id then post .normal s else post (.exit i) s
 |e,s=>post e s
theorem TC.block{a:Nat}{c:Code}(h:TC X c st (rK a post)):TC X (.block a c) st post:=by
 intro d f i;refine wp_block (wp_mono (h d f i) ?_);intro e j k ⟨s,h1,h2⟩;cases e with
 |exit g=>
  simp only[rK]at h1;simp only[Exit.inBlock];by_cases b:g=a
  ·rw[aqy b]at h1⊢;exact⟨s,h1,h2⟩
  ·rw[aqo b]at h1⊢;exact⟨s,h1,h2⟩
 |_=>exact⟨s,h1,h2⟩
theorem TC.region{u:Nat}{ops:List Oper}(h:TL X ops.toArray ops st (post .normal)):TC X (.region u ops.toArray false) st post:=by
 intro a b v;refine wp_region_lit ?_;have y: ∀j a b,wpList X.P ops.toArray (λe n k=>e= .normal/\ ∃c,post .normal c/\Inv X c n k) j a b->
   wpList X.P ops.toArray (λe n k=> ∃c,post e c/\Inv X c n k) j a b:=by
  have f: ∀(e:Exit) a b,(e= .normal/\ ∃c,post .normal c/\Inv X c a b)-> ∃c,post e c/\Inv X c a b:=by
   rintro e a b ⟨rfl,h⟩;exact h
  have r: ∀(d g:Exit->Act->World->Prop),(∀e a b,d e a b->g e a b)->LetsOut d->LetsOut g:= λd g h ⟨a,b,s⟩=>⟨a,b,h _ _ _ s⟩
  have up: ∀(i:Oper) (a:Act) (b:World) (next p:Act->World->Prop) (d g:Exit->Act->World->Prop),(∀a b,next a b->p a b)->(∀e a b,d e a b->g e a b)->i.wp X.P a b next d->i.wp X.P a b p g:=by
   intro i a b next p d g hn f h
   unfold Oper.wp at*;generalize (execOp a.eval i).run X.P b=t at*;cases t with
   |ok m k=>
    cases m<;>simp only[Oper.upon]at h⊢ <;>
     first
      |exact hn _ _ h
      |exact Calls.mono h (λe z l=>by cases e<;>first|exact hn _ _ l|exact f _ _ _ l|exact r _ _ f l)
      |exact Rows.mono h (λ_ _ l=>hn _ _ l)
      |exact h
   |halt m k=>cases m<;>simp only[Oper.upon]at h⊢ <;>first|exact f _ _ _ h|exact h
  intro j
  induction j with
  |nil=>intro a b h;exact f _ _ _ h
  |cons i j q=>
   intro a b h;unfold wpList at h⊢;split
   ·rename_i o;rw[aqy o]at h;rcases h with h|⟨w,x⟩
    ·exact .inl (up i a b _ _ _ _ q f h)
    ·exact .inr ⟨w,r _ _ f x⟩
   ·rename_i o;rw[aqo o]at h;exact q _ _ h
 exact y _ _ _ (h a b v)
end code
def dv(P:Program)(o:Oper)(ρ:Operand->Value)(w:World)(post:Value->World->Prop):Prop:=
 match(execOp ρ o).run P w with
 | .ok (.value u) w'=>post u w'
 | .ok .skip w'=>post undef w'
 | .ok (.enter f args) w'=>Calls P f args w' λe Ug=> ∃u,e= .returned u/\post u Ug
 |_=>False
theorem dv.value{P:Program}{o:Oper}{ρ:Operand->Value}{w w':World}{u:Value}{post:Value->World->Prop}
  (h:(execOp ρ o).run P w= .ok (.value u) w') (a:post u w'):dv P o ρ w post:=by
 unfold dv;rw[h];exact a
theorem dv.skip{P:Program}{o:Oper}{ρ:Operand->Value}{w w':World}{post:Value->World->Prop}
  (h:(execOp ρ o).run P w= .ok .skip w') (a:post undef w'):dv P o ρ w post:=by
 unfold dv;rw[h];exact a
theorem dv.enter{P:Program}{o:Oper}{ρ:Operand->Value}{w w':World}{f:Nat}{args:Array Value}{post:Value->World->Prop}
  (h:(execOp ρ o).run P w= .ok (.enter f args) w') (b:Calls P f args w' λe c=> ∃a,e= .returned a/\post a c):dv P o ρ w post:=by
 unfold dv;rw[h];exact b
theorem dv.wp{P:Program}{o:Oper}{a:Act}{w:World}{post:Value->World->Prop}{next:Act->World->Prop}{Q:Exit->Act->World->Prop}
  (h:dv P o a.eval w post) (f: ∀c b,post c b->next (a.put o.dst c) b):o.wp P a w next Q:=by
 unfold dv at h;unfold Oper.wp;generalize (execOp a.eval o).run P w=g at*;cases g with
 |ok d b=>
  cases d<;>simp only[Oper.upon]at h⊢ <;>
   first
    |exact f _ _ h
    |exact h.elim
    |exact Calls.mono h (λe k ⟨c,i,j⟩=>by subst i;exact f _ _ j)
 |halt d b=>simp at h
def cE(X:bD)(o:Oper)(st:St)(post:V->St->Prop):Prop:=
 ∀a σ MD,cw X σ MD st a->dv X.P o a.eval σ.w λu w'=> ∃v MJ MZ NS,post v MJ/\MZ.w=w'/\cw X MZ NS MJ a/\RV MZ NS v u
def jq(ops:Array Oper)(o:Oper)(st:St):Option Bool:=
 match o.guard with
 |none=>some true
 |some (j,want)=>match(ops[j]?).bind (·.dst)with
  |some g=>match get st.sl g with
   |some (.m (.d (.bool b)))=>some (b==want)
   |some (.m (.cZ []))=>some false
   |_=>none
  |none=>none
theorem bJ{b:Type}(k t:Nat)(v:b)(l:List (Nat×b)):get ((k,v)::l) t=if k=t then some v else get l t:=by
 show(bif Nat.beq k t then some v else get l t)=_;by_cases a:k=t
 ·subst a;simp
 ·have:Nat.beq k t=false:=by rw[<-arp];intro e;exact a (aqr e)
  rw[this,aqo a];rfl
theorem cw.set{X:bD}{σ:Sg}{MD:Nat->Nat}{sl:List (Nat×V)}{bx:List (Nat×List M)}{H:Hp}{a:Act}{d:Nat}{v:V}{u:Value}
  (h:cw X σ MD ⟨sl,bx,H⟩ a) (g:d<X.n) (i:RV σ MD v u):cw X σ MD ⟨(d,v)::sl,bx,H⟩ (a.put (some d) u):=by
 refine⟨h.hH,h.defers,?_,?_,h.box,h.rm,h.rI,h.rJ,h.hinv,h.mono,h.cp⟩
 ·simp[Act.put,h.size]
 ·intro c f b;simp only[bJ]at b;by_cases e:d=c
  ·subst e;simp at b;subst b;refine⟨u,?_,i⟩;simp[Act.put,h.size,g]
  ·rw[aqo e]at b;obtain⟨j,k,l⟩:=h.slot c f b;refine⟨j,?_,l⟩;simp[Act.put,ara e,k]
theorem cw.wanted{X:bD}{σ:Sg}{MD:Nat->Nat}{st:St}{a:Act}(h:cw X σ MD st a){ops:Array Oper}{o:Oper}{b:Bool}
  (c:jq ops o st=some b):Region.wanted o (yielded ops a.tmps)=b:=by
 unfold jq at c;unfold Region.wanted;split at c
 ·rename_i f;simp only[f];injection c with e
 ·rename_i s p f;simp only[f];split at c
  ·rename_i t l;split at c
   ·rename_i n g;obtain⟨q,i,j⟩:=h.slot _ _ g;cases j with
    |m k=>cases k with
     |d r=>cases r with
      |bool n=>
       injection c with e
       subst e;simp only[yielded,l,asO,i];cases n<;>cases p<;>rfl
   ·rename_i g;obtain⟨q,i,j⟩:=h.slot _ _ g;cases j with
    |m k=>cases k with
     |cZ u v w x=>
      injection c with e
      subst e;simp only[yielded,l,asO,i];cases p<;>rfl
   ·cases c
  ·cases c
theorem bL{a b:Nat}(h:Nat.blt a b=true):a<b:=by rw[Nat.blt_eq]at h;exact h
theorem TL.op{X:bD}{ops:Array Oper}{o:Oper}{rest:List Oper}{st:St}{post:St->Prop}{b:V->St->Prop}{d:Nat}
  (g:jq ops o st=some true) (i:o.dst=some d) (j:Nat.blt d X.n=true) (h:cE X o st b)
  (k: ∀v a,b v a->TL X ops rest ⟨(d,v)::a.sl,a.bx,a.H⟩ post):TL X ops (o::rest) st post:=by
 rintro e t ⟨f,l,rfl,c⟩;unfold wpList;rw[aqy (c.wanted g)];refine .inl ((h e f l c).wp ?_);rintro u w ⟨v,a,m,n,p,q,r,s⟩;rw[i];exact k v a p _ _ ⟨m,n,q,r.set (bL j) s⟩
theorem TL.Md{X:bD}{ops:Array Oper}{o:Oper}{rest:List Oper}{st:St}{post:St->Prop}{b:V->St->Prop}
  (f:jq ops o st=some true) (g:o.dst=none) (h:cE X o st b)
  (k: ∀v a,b v a->TL X ops rest a post):TL X ops (o::rest) st post:=by
 rintro d q ⟨e,i,rfl,c⟩;unfold wpList;rw[aqy (c.wanted f)];refine .inl ((h d e i c).wp ?_);rintro r s ⟨v,a,j,l,m,n,p,t⟩;rw[g];exact k v a m _ _ ⟨j,l,n,p⟩
theorem TL.skip{X:bD}{ops:Array Oper}{o:Oper}{rest:List Oper}{st:St}{post:St->Prop}{d:Nat}
  (b:jq ops o st=some false) (c:o.dst=some d) (e:Nat.blt d X.n=true)
  (k:TL X ops rest ⟨(d,.m (.cZ []))::st.sl,st.bx,st.H⟩ post):TL X ops (o::rest) st post:=by
 intro f g ⟨σ,MD,Px,hi⟩;unfold wpList;rw[aqo (by rw[hi.wanted b];simp)];rw[c];exact k _ _ ⟨σ,MD,Px,hi.set (bL e) (.m (.cZ [] #[] W (by intro h m v a;simp at a)))⟩
theorem TL.nil{X:bD}{ops:Array Oper}{st:St}{post:St->Prop}(h:post st):TL X ops [] st post:=
 λb c a=>⟨rfl,st,h,a⟩
def c_(v:V)(st:St):V->St->Prop:= λv' s'=>v'=v/\s'=st
theorem TL.lA{X:bD}{ops:Array Oper}{o:Oper}{rest:List Oper}{st:St}{post:St->Prop}{v:V}{s:St}{d:Nat}
  (a:jq ops o st=some true) (b:o.dst=some d) (c:Nat.blt d X.n=true) (h:cE X o st (c_ v s))
  (k:TL X ops rest ⟨(d,v)::s.sl,s.bx,s.H⟩ post):TL X ops (o::rest) st post:=
 TL.op a b c h λg i ⟨e,f⟩=>by subst e;subst f;exact k
theorem TL.EN{X:bD}{ops:Array Oper}{o:Oper}{rest:List Oper}{st:St}{post:St->Prop}{v:V}{s:St}
  (a:jq ops o st=some true) (b:o.dst=none) (h:cE X o st (c_ v s))
  (k:TL X ops rest s post):TL X ops (o::rest) st post:=
 TL.Md a b h λe f ⟨c,d⟩=>by subst c;subst d;exact k
theorem MQ{X:bD}{o:Oper}{st:St}{v:V}(h: ∀c a b,cw X a b st c-> ∃d,(execOp c.eval o).run X.P a.w= .ok (.value d) a.w/\RV a b v d):
  cE X o st (c_ v st):=by
 intro c a b e;obtain⟨d,f,g⟩:=h c a b e;exact dv.value f ⟨v,st,a,b,⟨rfl,rfl⟩,rfl,e,g⟩
theorem uk{O:Nat->Nat->Prop}{w:World}{v:Value}{d:D}(h:pU v=some d):gd O w d v:=by
 unfold pU at h;split at h<;>first
  |(injection h with h;subst h;constructor)
  |cases h
theorem te{O:Nat->Nat->Prop}{w:World} : ∀{e:List Value} {ds:List D},lg e=some ds->
  e.length=ds.length/\ ∀(i:Nat) d v,ds[i]?=some d->e[i]?=some v->gd O w d v
 | [],ds,a=>by simp[lg]at a;subst a;simp
 |v::m,ds,a=>by
  simp only[lg]at a;split at a
  ·rename_i d n f g;injection a with a;subst a
   obtain⟨h,j⟩:=te (O:=O) (w:=w) g;refine⟨by simp[h],λi k l b c=> ?_⟩;cases i with
   |zero=>simp at b c;subst b;subst c;exact uk f
   |succ i=>simp at b c;exact j i k l b c
  ·cases a
theorem zd{v:Value}{d:D}(h:pU v=some d):flat v=true:=by
 unfold pU at h;split at h<;>first|rfl|cases h
theorem rL: ∀{c:List Value} {ds:List D},lg c=some ds-> ∀(i:Nat) (v:Value),c[i]?=some v->flat v=true
 | [],ds,b,i,v,a=>by simp at a
 |g::h,ds,b,i,v,a=>by
  simp only[lg]at b;split at b
  ·rename_i d j e f;cases i with
   |zero=>simp at a;subst a;exact zd e
   |succ i=>simp at a;exact rL f i v a
  ·cases b
theorem eJ{O:Nat->Nat->Prop}{w:World}{v:Value}{d:D}(h:qu v=some d):gd O w d v:=by
 unfold qu at h;split at h
 ·rename_i e;cases a:lg e.toList with
  |none=>simp[a]at h
  |some f=>
   simp[a]at h;subst h;obtain⟨g,i⟩:=te (O:=O) (w:=w) a;exact .agg f e (by simpa using g) (λb v c=>rL a b v (by simpa using c)) (λb d v j c=>i b d v j (by simpa using c))
 ·exact uk h
theorem cw.ev{X:bD}{σ:Sg}{MD:Nat->Nat}{st:St}{a:Act}(h:cw X σ MD st a){x:Operand}{v:V}(b:st.ev x=some v):
  RV σ MD v (a.eval x):=by
 cases x with
 |tmp f=>
  obtain⟨g,j,k⟩:=h.slot f v b;have:a.eval (.tmp f)=g:=by simp[Act.eval,j]
  rw[this];exact k
 |const c=>
  simp only[St.ev,bj]at b;cases e:qu c with
  |none=>simp[e]at b
  |some d=>simp[e]at b;subst b;exact .m (.d (eJ e))
 |func i=>
  simp only[St.ev,bj]at b;injection b with b;subst b
  exact .m (.d (.fn i [] #[] W (by simp)))
 |global l=>simp[St.ev,bj]at b
section ops
variable{X:bD}{st:St}{dst:Option Nat}{ty:Nat}{pos:String}{af:Array Edge}{g:Option (Nat×Bool)}
theorem BV{x:Operand}{v:V}(a:st.ev x=some v):cE X ⟨dst,.move x,ty,pos,af,g⟩ st (c_ v st):=
 MQ λc d e b=>⟨_,by simp[execOp],b.ev a⟩
theorem Dv{x:Operand}{v:V}(a:st.ev x=some v):cE X ⟨dst,.assign x,ty,pos,af,g⟩ st (c_ v st):=
 MQ λc d e b=>⟨_,by simp[execOp],b.ev a⟩
theorem cw.o9{σ:Sg}{MD:Nat->Nat}{a:Act}(h:cw X σ MD st a){x:Operand}{d:D}(b:st.ev x=some (.m (.d d))):
  gd σ.O σ.w d (a.eval x):=by
 have:=h.ev b;cases this with
 |m h=>cases h with
  |d h=>exact h
theorem cw.wG{σ:Sg}{MD:Nat->Nat}{a:Act}(h:cw X σ MD st a){x:Operand}{b:Bool}(c:st.ev x=some (.m (.d (.bool b)))):
  a.eval x= .bool b:=by
 have:=h.o9 c;generalize a.eval x=d at*;cases this;rfl
theorem cw.kj{σ:Sg}{MD:Nat->Nat}{a:Act}(h:cw X σ MD st a){x:Operand}{k:IntKind}{n:Int}(b:st.ev x=some (.m (.d (.int k n)))):
  a.eval x= .int k n:=by
 have:=h.o9 b;generalize a.eval x=c at*;cases this;rfl
theorem cw.vh{σ:Sg}{MD:Nat->Nat}{a:Act}(h:cw X σ MD st a){x:Operand}{s:ByteArray}(b:st.ev x=some (.m (.d (.str s)))):
  a.eval x= .string s:=by
 have:=h.o9 b;generalize a.eval x=c at*;cases this;rfl
theorem Dw{c x y:Operand}{v:V}(b:st.ev c=some (.m (.d (.bool true))))(d:st.ev x=some v):
  cE X ⟨dst,.pick c x y,ty,pos,af,g⟩ st (c_ v st):=
 MQ λe f h a=>⟨_,by simp[execOp,a.wG b,asBool],a.ev d⟩
theorem Dx{c x y:Operand}{v:V}(b:st.ev c=some (.m (.d (.bool false))))(d:st.ev y=some v):
  cE X ⟨dst,.pick c x y,ty,pos,af,g⟩ st (c_ v st):=
 MQ λe f h a=>⟨_,by simp[execOp,a.wG b,asBool],a.ev d⟩
def lB:BinOp->IntKind->Int->Int->Option D
 | .add,k,a,b=>some (.int k (k.wrap (a+b)))
 | .sub,k,a,b=>some (.int k (k.wrap (a-b)))
 | .mul,k,a,b=>some (.int k (k.wrap (a*b)))
 | .eql,_,a,b=>some (.bool (a==b))
 | .neq,_,a,b=>some (.bool (a !=b))
 | .lss,_,a,b=>some (.bool (decide (a<b)))
 | .leq,_,a,b=>some (.bool (decide (a<=b)))
 | .gtr,_,a,b=>some (.bool (decide (a>b)))
 | .geq,_,a,b=>some (.bool (decide (a>=b)))
 |_,_,_,_=>none
theorem ul{op:BinOp}{c d:Nat}{x y:Operand}{k:IntKind}{m n:Int}{r:D}(e:st.ev x=some (.m (.d (.int k m))))(f:st.ev y=some (.m (.d (.int k n))))
  (a:lB op k m n=some r):cE X ⟨dst,.binOp op c x y d,ty,pos,af,g⟩ st (c_ (.m (.d r)) st):=by
 refine MQ λj l o b=> ?_
 have h:=b.kj e;have i:=b.kj f;cases op<;>simp only[lB]at a<;>first|(injection a with a;subst a;refine⟨_,by simp[execOp,h,i,eqGuard,binOp,Op.intArith,Op.intCmp];rfl,?_⟩;exact .m (.d (by constructor)))|cases a
theorem EO{b c:Nat}{x y:Operand}{k:IntKind}{m n:Int}(d:st.ev x=some (.m (.d (.int k m))))(e:st.ev y=some (.m (.d (.int k n))))
  (f:(n==0)=false):cE X ⟨dst,.binOp .quo b x y c,ty,pos,af,g⟩ st (c_ (.m (.d (.int k (k.wrap (m.tdiv n))))) st):=by
 refine MQ λl o p a=> ?_
 have h:=a.kj d;have i:=a.kj e;have j: ¬n=0:=by simpa using f
 exact⟨_,by simp[execOp,h,i,eqGuard,binOp,Op.intDiv,j];rfl,.m (.d (by constructor))⟩
theorem EP{b c:Nat}{x y:Operand}{k:IntKind}{m n:Int}(d:st.ev x=some (.m (.d (.int k m))))(e:st.ev y=some (.m (.d (.int k n))))
  (f:(n==0)=false):cE X ⟨dst,.binOp .rem b x y c,ty,pos,af,g⟩ st (c_ (.m (.d (.int k (m.tmod n)))) st):=by
 refine MQ λl o p a=> ?_
 have h:=a.kj d;have i:=a.kj e;have j: ¬n=0:=by simpa using f
 exact⟨_,by simp[execOp,h,i,eqGuard,binOp,Op.intDiv,j];rfl,.m (.d (by constructor))⟩
theorem I_{x:Operand}{a:Nat}{b:Bool}(c:st.ev x=some (.m (.d (.bool b)))):cE X ⟨dst,.unOp .not a x,ty,pos,af,g⟩ st (c_ (.m (.d (.bool (!b)))) st):=by
 refine MQ λf h i d=> ?_
 have e:=d.wG c;exact⟨_,by simp[execOp,e,Op.unary];rfl,.m (.d (by constructor))⟩
theorem I'{x:Operand}{a:Nat}{k:IntKind}{n:Int}(b:st.ev x=some (.m (.d (.int k n)))):cE X ⟨dst,.unOp .neg a x,ty,pos,af,g⟩ st (c_ (.m (.d (.int k (k.wrap (-n))))) st):=by
 refine MQ λe f h c=> ?_
 have d:=c.kj b;exact⟨_,by simp[execOp,d,Op.unary,Op.intArith];rfl,.m (.d (by constructor))⟩
theorem rM(a b:ByteArray):(a.toList==b.toList)=decide (a=b):=by
 rw[asy];simp;constructor
 ·intro c;have:a.data.toList=b.data.toList:=by
   rw[ByteArray.toList_eq,ByteArray.toList_eq]at c;exact c
  cases a;cases b;simp at this;simp[this]
 ·rintro rfl;rfl
end ops
structure fJ(w w':World):Prop where
 os:w'.os=w.os
 output:w'.output=w.output
 tape:w'.tape=w.tape
 size:w.heap.size<=w'.heap.size
 cp: ∀b,b<w.heap.size->w'.heap[b]?=w.heap[b]?
theorem fJ.alloc(w:World)(o:Obj):fJ w {w with heap:=w.heap.push o} :=
 ⟨rfl,rfl,rfl,by simp,λb a=>by simp[ar9];omega⟩
theorem fJ.drew(w:World):fJ w {w with drawn:=w.drawn+1} :=⟨rfl,rfl,rfl,aqd _,λ_ _=>rfl⟩
theorem fK{w:World}{b:Nat}{x:Obj}(h:w.heap[b]?=some x):b<w.heap.size:=by
 rcases aqh b w.heap.size with a|a
 ·exact a
 ·simp[aqT a]at h
theorem lC{w:World}{b o:Nat}{v:Value}(h:dY w b o=some v):b<w.heap.size:=by
 unfold dY World.cell? at h;cases a:w.heap[b]? with
 |none=>simp[a]at h
 |some c=>exact fK a
theorem mE{w w':World}{b o:Nat}(h:w'.heap[b]?=w.heap[b]?):dY w' b o=dY w b o:=by
 unfold dY World.cell?;rw[h]
theorem fJ.cell{w w':World}(h:fJ w w'){b o:Nat}{v:Value}(a:dY w b o=some v):dY w' b o=some v:=by
 rw[mE (h.cp b (lC a))];exact a
theorem fJ.heap{w w':World}(h:fJ w w'){b:Nat}{x:Obj}(a:w.heap[b]?=some x):w'.heap[b]?=some x:=by
 rw[h.cp b (fK a)];exact a
theorem dy.ext{σ:Sg}{w':World}(h:fJ σ.w w'):dy σ {σ with w:=w'} :=
 ⟨λb k v a e=>⟨h.cell a,e⟩,λd c a=>⟨⟨c,a⟩,rfl⟩,λd c a=>⟨⟨c,a⟩,rfl⟩,λd c a=>⟨⟨c,a⟩,rfl⟩,λd a=>a,
 λd j m f c a=> .inr ⟨j,f,c,a,aqd _,λ_=>⟨rfl,rfl,λg l i=>⟨g,h.heap i,rfl⟩⟩⟩,λ_ h=>⟨_,h⟩⟩
theorem gf.cB{σ τ:Sg}(i:dy σ τ){b b':Nat}{ob:Ob}(j: ∀k,σ.w.heap[b]?=some k->τ.w.heap[b']?=some k)(h:gf σ b ob):gf τ b' ob:=by
 cases ob with
 |box u=>obtain⟨n,l,a,d⟩:=h;exact⟨n,l,j _ a,d.mono i⟩
 |row E B C u=>obtain⟨w,n,l,A,q,a,d,o,x,p⟩:=h;exact⟨w,n,l,A,q,j _ a,d,o,x,λf m v g b=>⟨(p f m v g b).1.mono i,(p f m v g b).2⟩⟩
 |map D=>obtain⟨e,c,a,d,o⟩:=h;exact⟨e,c,j _ a,d,λf e r g b=>(o f e r g b).up λv y=>y.mono i⟩
 |iter k=>obtain⟨z,s,t,a,d⟩:=h;exact⟨z,s,t,j _ a,d.mono i⟩
 |dead=>trivial
 |free=>trivial
theorem j_.ext{σ:Sg}{a:Nat->Nat->Prop}{w':World}(hi:j_ σ a)(h:fJ σ.w w'):j_ {σ with w:=w'} a:=
 ⟨λc e f=>(hi.obj c e f).cB (dy.ext h) (λj g=>h.heap g),hi.inj,hi.own,hi.sep,λb d i=>ard (hi.lU b d i) h.size⟩
theorem aW.ext{σ:Sg}{w':World}(h:fJ σ.w w'):aW σ {σ with w:=w'} :=
 ⟨h.os,h.output,h.tape,h.size,λb a _=>h.cp b a,λf c d e=> .inr ⟨c,d,e,rfl⟩⟩
theorem cw.ext{X:bD}{σ:Sg}{MD:Nat->Nat}{st:St}{a:Act}{w':World}(hi:cw X σ MD st a)(h:fJ σ.w w'):
  cw X {σ with w:=w'} MD st a:=
 ⟨hi.hH,hi.defers,hi.size,λb v c=>let⟨d,e,f⟩:=hi.slot b v c;⟨d,e,f.mono (dy.ext h)⟩,
 λb g c=>(hi.box b g c).cB (dy.ext h) (λj i=>h.heap i),hi.rm,hi.rI,hi.rJ,hi.hinv.ext h,
 hi.mono.trans (dy.ext h),hi.cp.trans (aW.ext h)⟩
theorem cE.grow{X:bD}{o:Oper}{st:St}{v:V}(h: ∀d a b,cw X a b st d-> ∃e c,(execOp d.eval o).run X.P a.w= .ok (.value e) c/\fJ a.w c/\RV {a with w:=c} b v e):
  cE X o st (c_ v st):=by
 intro d a b f;obtain⟨e,c,g,i,j⟩:=h d a b f;exact dv.value g ⟨v,st,{a with w:=c},b,⟨rfl,rfl⟩,rfl,f.ext i,j⟩
def EQ(O:Nat->Nat->Prop)(w:World)(ds:List D)(vs:Array Value):Prop:=
 vs.size=ds.length/\ ∀(i:Nat) (d:D) (v:Value),ds[i]?=some d->vs[i]?=some v->gd O w d v
def Kc(O:Nat->Nat->Prop)(w:World)(ds:List D)(vs:Array Value):Prop:=
 vs.size=ds.length/\ ∀(i:Nat) (d:D) (v:Value),ds[i]?=some d->vs[i]?=some v->gd O w d v/\flat v=true
theorem gd.cells{O:Nat->Nat->Prop}{w:World}{d:D}{v:Value}(h:gd O w d v):Kc O w (bf d) v.cells:=by
 cases h with
 |agg g i e f h=>exact⟨e,λa d v b c=>⟨h a d v b c,f a v c⟩⟩
 |_=>
  refine⟨rfl,λa j k b c=> ?_⟩;cases a with
  |zero=>simp[bf,Value.cells]at b c;subst b;subst c;exact⟨by constructor<;>assumption,rfl⟩
  |succ a=>simp[bf]at b
def M.iG:M->Bool
 | .undef=>false
 | .cZ _=>false
 |_=>true
theorem RM.cells{σ:Sg}{m:M}{v:Value}(h:RM σ m v)(p:m.iG=true):ki σ (cellsOf m) v.cells:=by
 have f: ∀(m:M) (v:Value),RM σ m v->flat v=true->ki σ [m] #[v]:=by
  intro m v h j;refine⟨rfl,λa y z c e=> ?_⟩;cases a with
  |zero=>simp at c e;subst c;subst e;exact⟨h,j⟩
  |succ a=>simp at c
 cases h with
 |d h=>
  have k:=h.cells;refine⟨by simp[cellsOf,k.1],λa m v c e=> ?_⟩;simp only[cellsOf,aqL,arh]at c;obtain⟨d,q,rfl⟩:=c;exact⟨.d (k.2 a d v q e).1,(k.2 a d v q e).2⟩
 |agg g l i j h=>exact⟨i,λa d v c e=>⟨h a d v c e,j a v e⟩⟩
 |ref a o g h=>exact f _ _ (.ref a o g h) W
 |bB a n w r x c e=>exact f _ _ (.bB a n w r x c e) W
 |dX a n o b c e=>exact f _ _ (.dX a n o b c e) W
 |mp a u h=>exact f _ _ (.mp a u h) W
 |it a s h=>exact f _ _ (.it a s h) W
 |fn t g l i h=>exact f _ _ (.fn t g l i h) W
 |cZ g l i h=>simp[M.iG]at p
 |undef v=>simp[M.iG]at p
theorem wW(w:World)(a:Array Value)(T:Nat)(b:Nat×Nat)(i:Nat):dY {w with heap:=w.heap.push (.cells a T b)} w.heap.size i=a[i]?:=by
 simp[dY,World.cell?]
theorem gd.Ja{O:Nat->Nat->Prop}{w:World}{ds:List D}{c:Array Value}{T:Nat}(j: ∀b g,O b g->b<w.heap.size)(h:Kc O w ds c):
  gd O {w with heap:=w.heap.push (.cells c T (0,0))} (.aZ ds 0) (.pointer (some ⟨w.heap.size,0,none⟩)):=by
 refine gd.aZ ds 0 w.heap.size 0 (λa=>c.getD a undef) ?_ ?_ ?_
 ·intro a e;refine⟨?_,λk=>by have:=j _ _ k;omega⟩;rw[arF,wW];have:a<c.size:=by rw[h.1];exact e
  simp[this]
 ·intro a e;have f:a<c.size:=by rw[h.1];exact e
  have l:c[a]?=some (c.getD a undef):=by simp[f]
  exact(h.2 a ds[a] _ (by simp[e]) l).2
 ·intro a d i;have e:a<c.size:=by rw[h.1];rcases aqh a ds.length with h|h;exact h;simp[aqj h]at i
  have:=(h.2 a d (c.getD a undef) i (by simp[e])).1;exact this.mono λb g v m f=>⟨(fJ.alloc w _).cell m,f⟩
section ops
variable{X:bD}{st:St}{dst:Option Nat}{ty:Nat}{pos:String}{af:Array Edge}{g:Option (Nat×Bool)}
theorem Jb{t:Nat}{x:Operand}{d:D}(c:st.ev x=some (.m (.d d))):
  cE X ⟨dst,.box t x,ty,pos,af,g⟩ st (c_ (.m (.d (.aZ (bf d) 0))) st):=by
 refine cE.grow λe f h a=> ?_
 have b:=(a.o9 c).cells;exact⟨_,_,by simp[execOp,Instr.box,newVar,newRow,newObj,Sem.run];rfl,fJ.alloc _ _,.m (.d (gd.Ja a.hinv.BU b))⟩
class jr(P:Program)(t:Nat)(n:outParam Nat):Prop where
 agg:tw P t=some true
 size:fu P t=some n
class bU(P:Program)(t:Nat)(n:outParam Nat):Prop where
 size:fu P t=some n
class gg(P:Program)(t:Nat)(z:outParam D):Prop where
 zero:sU P t=some z
class cj(P:Program)(t:Nat):Prop where
 cell:tw P t=some false
theorem cj.run{P:Program}{t:Nat}(h:cj P t)(w:World):(isAgg t).run P w= .ok false w:=by
 have:=h.cell;unfold tw at this;unfold isAgg underlying;simp[program,Sem.run];cases a:P.underlying t with
 |none=>simp[a]at this
 |some d=>cases d<;>simp_all
theorem jr.run{P:Program}{t n:Nat}(h:jr P t n)(w:World):(isAgg t).run P w= .ok true w:=by
 have:=h.agg;unfold tw at this;unfold isAgg underlying;simp[program,Sem.run];cases a:P.underlying t with
 |none=>simp[a]at this
 |some d=>cases d<;>simp_all
theorem c9{P:Program}{t n:Nat}(h:fu P t=some n)(w:World):(sizeOf t).run P w= .ok n w:=by
 unfold fu at h;unfold sizeOf typeInfo;simp[program,Sem.run];cases a:P.info? t with
 |none=>simp[a]at h
 |some d=>simp[a]at h;simp[h]
theorem li(b o n:Nat):(⟨b,o,none⟩:Addr).add n=⟨b,o+n,none⟩:=by
 unfold Addr.add;split
 ·rename_i a;subst a;rfl
 ·rfl
theorem wX{P:Program}{w:World}{b o:Nat}{v:Value}(h:dY w b o=some v):(load ⟨b,o,none⟩).run P w= .ok v w:=by
 unfold dY at h;simp[h]
theorem jG{P:Program}{w:World}{b o:Nat}{a:Array Value} : ∀(n i:Nat) (acc:Array Value),i+n=a.size->acc=a.extract 0 i->
  (∀j,j<a.size->dY w b (o+j)=some (a.getD j undef))->(loadCellsFrom ⟨b,o,none⟩ i n acc).run P w= .ok a w
 |0,i,acc,l,e,_=>by
  have:i=a.size:=by omega
  subst this;simp[loadCellsFrom,e]
 |n+1,i,acc,l,e,h=>by
  have k:i<a.size:=by omega
  rw[loadCellsFrom];simp only[li,Sem.run_bind,wX (h i k),Result.andThen_ok];refine jG n (i+1) _ (by omega) ?_ h;rw[e];apply asm;intro c;simp[ar9,arG];have:i<=a.size:=by omega
  rcases arx c i with d|d|d
  ·have m:c<min i a.size:=by omega
   have f: ¬c=min i a.size:=by omega
   have g:c<min (i+1) a.size:=by omega
   simp[f,m,g]
  ·subst d;simp[asg this,k];omega
  ·have f: ¬c=min i a.size:=by omega
   have g: ¬c<min (i+1) a.size:=by omega
   have p: ¬c<min i a.size:=by omega
   simp[f,g,p]
theorem nH{a:Type}(l:List a)(off n i:Nat)(hi:i<n):((l.drop off).take n)[i]?=l[off+i]?:=by
 rw[asc hi,asn]
theorem wY{P:Program}{O:Nat->Nat->Prop}{w:World}{t b o off:Nat}{cs:List D}{val:Nat->Value}{d:D}(g:rH P t cs off=some d)
  (n: ∀a,a<cs.length->dY w b (o+a)=some (val a)/\ ¬O b (o+a)) (y: ∀a,a<cs.length->flat (val a)=true) (p: ∀a d,cs[a]?=some d->gd O w d (val a)):
  ∃u,(Instr.loadAt t (.pointer (some ⟨b,o+off,none⟩))).run P w= .ok u w/\gd O w d u:=by
 unfold rH at g;split at g
 ·rename_i c k q;cases l:Nat.ble (off+c) cs.length with
  |false=>simp[l]at g
  |true=>
   simp only[l,aqX,arv]at g;subst g;have C:off+c<=cs.length:=aq5 l;have m:jr P t c:=⟨k,q⟩
   let e:Array Value:=((List.range c).map λa=>val (off+a)).toArray
   have r:e.size=c:=by simp[e]
   have z:(loadCellsFrom ⟨b,o+off,none⟩ 0 c #[]).run P w= .ok e w:=by
    refine jG c 0 _ (by omega) (by simp) ?_;intro j s;rw[r]at s;have:e.getD j undef=val (off+j):=by simp[e,s]
    rw[this,asd];exact(n (off+j) (by omega)).1
   refine⟨.agg e,?_,.agg _ e ?_ ?_ ?_⟩
   ·simp[Instr.loadAt,Instr.sureAddr,loadVar,m.run,c9 q,loadCells,z]
   ·simp[r];omega
   ·intro a v h;have i:a<c:=by
     rcases aqh a c with f|f
     ·exact f
     ·simp[aqT (show e.size<=a by omega)]at h
    have:v=val (off+a):=by simp[e,i]at h;exact h.symm
    subst this;exact y _ (by omega)
   ·intro a d v x h;have i:a<c:=by
     rcases aqh a c with f|f
     ·exact f
     ·simp[aqT (show e.size<=a by omega)]at h
    rw[nH cs off c a i]at x;have:v=val (off+a):=by simp[e,i]at h;exact h.symm
    subst this;exact p _ _ x
 ·rename_i k;have m:cj P t:=⟨k⟩;have A:off<cs.length:=by
   rcases aqh off cs.length with f|f
   ·exact f
   ·simp[aqj f]at g
  refine⟨val off,?_,p off d g⟩;have B:w.cell? ⟨b,o+off,none⟩=some (val off):=(n off A).1;simp[Instr.loadAt,Instr.sureAddr,loadVar,m.run,B]
 ·cases g
theorem vi{t:Nat}{x:Operand}{cs:List D}{off:Nat}{d:D}(f:st.ev x=some (.m (.d (.aZ cs off))))(h:rH X.P t cs off=some d):
  cE X ⟨dst,.load t x,ty,pos,af,g⟩ st (c_ (.m (.d d)) st):=by
 refine MQ λe p r i=> ?_
 have a:=i.o9 f;generalize j:e.eval x=c at a;cases a with
 |aZ cs off b q val k l m=>
  obtain⟨c,n,o⟩:=wY h k l m;exact⟨c,by simp[execOp,j,n],.m (.d o)⟩
theorem wZ{t:Nat}{x:Operand}{cs:List D}{off:Nat}{d:D}[ht:cj X.P t](a:st.ev x=some (.m (.d (.aZ cs off))))(b:cs[off]?=some d):
  cE X ⟨dst,.load t x,ty,pos,af,g⟩ st (c_ (.m (.d d)) st):=
 vi a (by simp[rH,ht.cell,b])
theorem Dy{t n:Nat}{x:Operand}{cs:List D}[ht:jr X.P t n](a:st.ev x=some (.m (.d (.aZ cs 0))))(b:cs.length=n):
  cE X ⟨dst,.load t x,ty,pos,af,g⟩ st (c_ (.m (.d (.agg cs))) st):=by
 refine vi a ?_;subst b;simp only[rH,ht.agg,ht.size,arF];have:Nat.ble cs.length cs.length=true:=arc (aqd _);simp[this]
theorem w4{t n:Nat}{x:Operand}{cs ds:List D}{off:Nat}[ht:jr X.P t n](a:st.ev x=some (.m (.d (.aZ cs off))))(b:Nat.ble (off+n) cs.length=true)(c:(cs.drop off).take n=ds):
  cE X ⟨dst,.load t x,ty,pos,af,g⟩ st (c_ (.m (.d (.agg ds))) st):=by
 refine vi a ?_;simp[rH,ht.agg,ht.size,b,c]
class i_(P:Program)(s f:Nat)(off:outParam Nat):Prop where
 run: ∀(b o:Nat) (w:World),(Instr.fieldAt s (.pointer (some ⟨b,o,none⟩)) f).run P w= .ok (.pointer (some ⟨b,o+off,none⟩)) w
def tz(P:Program)(s f off:Nat):Bool:=
 match P.underlying s with
 |some (.struct fields)=>match fields[f]? with
  |some fd=>match fu P fd.type with
   |some n=>n !=0&&fd.offset==off
   |none=>false
  |none=>false
 |_=>false
theorem mO{P:Program}{s f off:Nat}(h:tz P s f off=true):i_ P s f off:=by
 constructor;intro b e g;unfold tz at h;split at h
 ·rename_i k a;split at h
  ·rename_i j c;split at h
   ·rename_i i d;simp at h;simp[Instr.fieldAt,underlying,program,Sem.run,a,c,Instr.sureAddr,fieldPlace,c9 d,h.1,li,h.2]
   ·cases h
  ·cases h
 ·cases h
theorem Dz{s f:Nat}{x:Operand}{cs:List D}{off o:Nat}(d:st.ev x=some (.m (.d (.aZ cs off))))[hf:i_ X.P s f o]:
  cE X ⟨dst,.fieldAddr s x f,ty,pos,af,g⟩ st (c_ (.m (.d (.aZ cs (off+o)))) st):=by
 refine MQ λc m p e=> ?_
 have a:=e.o9 d;generalize h:c.eval x=n at a;cases a with
 |aZ cs off b i val j k l=>
  refine⟨_,by simp only[execOp,h];simp[hf.run];rfl,.m (.d ?_)⟩;rw[asd];exact .aZ cs (off+o) b i val j k l
theorem DA{s f:Nat}{x:Operand}{t off o:Nat}(c:st.ev x=some (.loc t off))[hf:i_ X.P s f o]:
  cE X ⟨dst,.fieldAddr s x f,ty,pos,af,g⟩ st (c_ (.loc t (off+o)) st):=by
 refine MQ λb h j d=> ?_
 have a:=d.ev c;generalize e:b.eval x=i at a;cases a with
 |loc t off=>exact⟨_,by simp only[execOp,e];simp[hf.run],.loc t (off+o)⟩
theorem w5{s f:Nat}{x:Operand}{i off o:Nat}(c:st.ev x=some (.m (.ref i off)))[hf:i_ X.P s f o]:
  cE X ⟨dst,.fieldAddr s x f,ty,pos,af,g⟩ st (c_ (.m (.ref i (off+o))) st):=by
 refine MQ λb k n d=> ?_
 have a:=d.ev c;generalize e:b.eval x=l at a;cases a with
 |m a=>cases a with
  |ref i off h j=>exact⟨_,by simp only[execOp,e];simp[hf.run],.m (.ref i (off+o) h j)⟩
theorem DB{s f:Nat}{x:Operand}{i aG off o:Nat}(d:st.ev x=some (.m (.dX i aG off)))[hf:i_ X.P s f o]:
  cE X ⟨dst,.fieldAddr s x f,ty,pos,af,g⟩ st (c_ (.m (.dX i aG (off+o))) st):=by
 refine MQ λc l p e=> ?_
 have a:=e.ev d;generalize h:c.eval x=n at a;cases a with
 |m a=>cases a with
  |dX i aG off b j k=>exact⟨_,by simp only[execOp,h];simp[hf.run],.m (.dX i aG (off+o) b j k)⟩
def tA:V->Bool
 | .m (.d (.aZ _ _))=>true
 | .m (.ref _ _)=>true
 | .m (.dX _ _ _)=>true
 | .loc _ _=>true
 | .m (.d (.fn _ _))=>true
 | .m (.fn _ _)=>true
 |_=>false
theorem um{x:Operand}{v:V}(f:st.ev x=some v)(b:tA v=true):
  cE X ⟨dst,.nilCheck x,ty,pos,af,g⟩ st (c_ v st):=by
 refine MQ λe i l h=> ?_
 have a:=h.ev f;refine⟨e.eval x,?_,a⟩;generalize c:e.eval x=j at a;cases a with
 |loc k n=>simp[execOp,c]
 |tl _ _ _ _ _ _ _ _=>simp[tA]at b
 |m a=>cases a with
  |d a=>cases a<;>simp[tA]at b<;>simp[execOp,c]
  |_=>first|(simp[tA]at b;done)|simp[execOp,c]
def oB:D->Option Nat
 | .sl rows=>some rows.length
 | .o8=>some 0
 |_=>none
class aQ(P:Program)(t:Nat)(e:outParam Nat):Prop where
 u:P.underlying t=some (.slice e)
class AR(P:Program)(t:Nat):Prop where
 u:P.underlying t=some .string
theorem w6{t e:Nat}{x:Operand}{d:D}{n:Nat}(f:st.ev x=some (.m (.d d)))[ht:aQ X.P t e](b:oB d=some n):
  cE X ⟨dst,.call ⟨.builtin .len,#[x],#[t]⟩,ty,pos,af,g⟩ st (c_ (.m (.d (.int .i64 n))) st):=by
 refine MQ λc j l h=> ?_
 have a:=h.o9 f;generalize i:c.eval x=k at a;refine⟨.int .i64 n,?_,.m (.d (.int _ _))⟩;cases a<;>simp[oB]at b<;>subst b<;>simp[execOp,resolve,invoke,builtin,Builtin.len_,underlying,program,Sem.run,ht.u,i,goInt]
theorem w7{t e n:Nat}{x y:Operand}{rows:List (List D)}{r:List D}{k:IntKind}{i:Int}(p:st.ev x=some (.m (.d (.sl rows))))(q:st.ev y=some (.m (.d (.int k i))))
  [ht:aQ X.P t e] [s:bU X.P e n] (u:0<=i) (f:rows[i.toNat]?=some r) (v:r.length=n):
  cE X ⟨dst,.indexAddr t x y,ty,pos,af,g⟩ st (c_ (.m (.d (.aZ r 0))) st):=by
 refine MQ λl K M o=> ?_
 have c:=o.o9 p;have w:=o.kj q;generalize z:l.eval x=L at c;have h:i.toNat<rows.length:=by
  rcases aqh i.toNat rows.length with c|c
  ·exact c
  ·simp[aqj c]at f
 cases c with
 |slnil l=>simp at h
 |sl rows b m Q j val N O P A B C E=>
  have F:r∈rows:=aqk f;have G:j=n:=by rw[<-A r F];exact v
  subst G;have H:i<(rows.length:Int):=by omega
  refine⟨.pointer (some ⟨b,m+i.toNat*j+0,none⟩),?_,.m (.d (.aZ r 0 b (m+i.toNat*j) (λa=>val i.toNat a) ?_ ?_ ?_))⟩
  ·simp[execOp,z,w,Instr.indexAt,asIntOf,underlying,program,Sem.run,ht.u,c9 s.size,u,H,li]
  ·intro a I;have:=B i.toNat a h (by omega);simpa [asd] using this
  ·intro a I;exact C i.toNat a h (by omega)
  ·intro a d J;exact E i.toNat a r d f J
theorem FP{x y:Operand}{b c:Nat}{s u:ByteArray}(d:st.ev x=some (.m (.d (.str s))))(e:st.ev y=some (.m (.d (.str u)))):
  cE X ⟨dst,.binOp .eql b x y c,ty,pos,af,g⟩ st (c_ (.m (.d (.bool (decide (s=u))))) st):=by
 refine MQ λf h i a=> ?_
 exact⟨_,by simp only[execOp,a.vh d,a.vh e,eqGuard,binOp,Op.stringOp,rM];simp,.m (.d (.bool _))⟩
theorem FQ{x y:Operand}{b c:Nat}{s u:ByteArray}(d:st.ev x=some (.m (.d (.str s))))(e:st.ev y=some (.m (.d (.str u)))):
  cE X ⟨dst,.binOp .neq b x y c,ty,pos,af,g⟩ st (c_ (.m (.d (.bool (!decide (s=u))))) st):=by
 refine MQ λf h i a=> ?_
 exact⟨_,by simp only[execOp,a.vh d,a.vh e,eqGuard,binOp,Op.stringOp,rM];simp,.m (.d (.bool _))⟩
theorem w8{x y:Operand}{b c:Nat}{s u:ByteArray}(d:st.ev x=some (.m (.d (.str s))))(e:st.ev y=some (.m (.d (.str u))))(i:s.size+u.size<=9223372036854775807):
  cE X ⟨dst,.binOp .add b x y c,ty,pos,af,g⟩ st (c_ (.m (.d (.str (s++u)))) st):=by
 refine MQ λf h j a=> ?_
 have: ¬((s.size+u.size:Nat):Int)>IntKind.i64.max:=by
  have:IntKind.i64.max=9223372036854775807:=by decide
  omega
 exact⟨_,by simp only[execOp,a.vh d,a.vh e,eqGuard,binOp,Op.stringOp];simp only[aqo this];simp,.m (.d (.str _))⟩
theorem BW{x:Operand}{i:Nat}{b:List M}{m:M}(h:st.ev x=some (.m (.cZ b)))(c:b[i]?=some m):
  cE X ⟨dst,.extract x i,ty,pos,af,g⟩ st (c_ (.m m) st):=by
 refine MQ λf o q j=> ?_
 have a:=j.ev h;generalize k:f.eval x=p at a;cases a with
 |m a=>cases a with
  |cZ r e l n=>
   have d:i<e.size:=by
    rw[l];rcases aqh i b.length with a|a;exact a;simp[aqj a]at c
   exact⟨e[i],by simp[execOp,k,Instr.extract,d],.m (n i m _ c (by simp[d]))⟩
end ops
theorem TC.cond{X:bD}{st:St}{post:Exit->St->Prop}{c:Operand}{x y:Code}{b:Bool}(g:st.ev c=some (.m (.d (.bool b))))
  (ht:b=true->TC X x st post) (hf:b=false->TC X y st post):TC X (.cond c x y) st post:=by
 rintro d h ⟨e,f,rfl,a⟩;refine wp_cond (a.wG g) ?_;cases b
 ·exact hf W d _ ⟨e,f,rfl,a⟩
 ·exact ht W d _ ⟨e,f,rfl,a⟩
def uo:List M->M
 | [m]=>m
 |ms=> .cZ ms
def CT(P:Program)(f:Nat)(ms:List M)(H:Hp)(post:M->Hp->Prop):Prop:=
 ∀(σ:Sg) (Oo:Nat->Nat->Prop) (vs:Array Value),j_ σ Oo->σ.H=H->uj σ ms vs->Calls P f vs σ.w λe w'=> ∃v r MZ,e= .returned v/\MZ.w=w'/\post r MZ.H/\j_ MZ Oo/\RM MZ r v/\dy σ MZ/\aW σ MZ
def PT(P:Program)(f:Nat)(ds:List D)(post:List D->Prop):Prop:=
 ∀(O:Nat->Nat->Prop) (w:World) (vs:Array Value),(∀b o,O b o->b<w.heap.size)->EQ O w ds vs->Calls P f vs w λe w'=> ∃v r,e= .returned v/\post r/\fJ w w'/\RM ⟨w',O,λ_=>0,[]⟩ (uo (r.map .d)) v
theorem CT.mono{P:Program}{f:Nat}{ms:List M}{H:Hp}{post g:M->Hp->Prop}(h:CT P f ms H post)(l: ∀a i,post a i->g a i):CT P f ms H g:=
 λj m n o p q=>(h j m n o p q).mono λe s ⟨v,a,r,k,b,c,d⟩=>⟨v,a,r,k,b,l _ _ c,d⟩
theorem RM.DD{σ τ:Sg}{ds:List D}{v:Value}(h:RM σ (uo (ds.map .d)) v)(g: ∀b a v,dY σ.w b a=some v-> ¬σ.O b a->dY τ.w b a=some v/\ ¬τ.O b a):
  RM τ (uo (ds.map .d)) v:=by
 match ds,h with
 | [],h=>cases h with
  |cZ k l c h=>exact .cZ _ _ c (by simp)
 | [s],h=>cases h with
  |d h=>exact .d (h.mono g)
 |n::o::p,h=>cases h with
  |cZ k l c q=>
   refine .cZ _ _ c λf m v i r=> ?_
   have e:=q f m v i r;have j:((n::o::p).map M.d)[f]?=some m:=i;simp only[aqL,arh]at j;obtain⟨d,_,rfl⟩:=j;cases e with
   |d e=>exact .d (e.mono g)
theorem MP{P:Program}{f:Nat}{ds:List D}{post:List D->Prop}(h:CT P f (ds.map .d) [] λk _=> ∃d,k=uo (d.map .d)/\post d):PT P f ds post:=by
 intro i o l r n
 let a:Sg:=⟨o,i,λ_=>0,[]⟩
 have C:j_ a i:=⟨by simp[a],by simp[a],by simp[a],by simp[a],r⟩;have s:uj a (ds.map .d) l:=by
  refine⟨by simp[n.1],λp m v c j=> ?_⟩;simp only[aqL,arh]at c;obtain⟨d,t,rfl⟩:=c;exact .d (n.2 p d v t j)
 refine(h a i l C W s).mono ?_;rintro e E ⟨v,k,F,u,w,⟨d,x,y⟩,z,A,G,g⟩;subst x;subst w;refine⟨v,d,u,y,⟨g.os,g.output,g.tape,g.size,λb c=>g.cp b c (by simp[a])⟩,?_⟩;refine A.DD ?_;exactλb q v c j=>⟨c,λB=>j ((z.own b q).2 (.inl B))⟩
def qv(i:Nat):List M->List (Nat×V)
 | []=>[]
 |m::r=>(i,.m m)::qv (i+1) r
theorem w9: ∀(ms:List M) (i t:Nat) (v:V),get (qv i ms) t=some v->i<=t/\ ∃m,ms[t-i]?=some m/\v= .m m
 | [],i,t,v,a=>by simp[qv,get]at a
 |m::b,i,t,v,a=>by
  simp only[qv,bJ]at a;by_cases e:i=t
  ·subst e;simp at a;subst a;exact⟨aqd _,m,by simp,rfl⟩
  ·rw[aqo e]at a;obtain⟨g,c,d,f⟩:=w9 b (i+1) t v a;refine⟨by omega,c,?_,f⟩;have:t-i=(t-(i+1))+1:=by omega
   rw[this];simpa using d
def AS(P:Program)(st:St):ResultVar->Option M
 | .tmp t=>match get st.sl t with
  |some (.m m)=>some m
  |_=>none
 | .cell t T=>match get st.sl t with
  |some (.loc u off)=>match get st.bx u with
   |some cs=>gu P T cs off
   |none=>none
  |some (.m (.d (.aZ cs off)))=>(rH P T cs off).map .d
  |some (.m (.ref i off))=>match st.H[i]? with
   |some (.box cs)=>gu P T cs off
   |_=>none
  |_=>none
def sV(P:Program)(st:St):List ResultVar->Option (List M)
 | []=>some []
 |r::rs=>match AS P st r,sV P st rs with
  |some m,some ms=>some (m::ms)
  |_,_=>none
def lj(P:Program)(fn:Func)(st:St):Option M:=(sV P st fn.results.toList).map uo
theorem tB: ∀{cs:List M} {ds:List D},j9 cs=some ds->cs=ds.map .d
 | [],ds,a=>by simp[j9]at a;subst a;rfl
 |m::c,ds,a=>by
  cases m<;>simp only[j9]at a<;>try (cases a;done)
  rename_i d;cases b:j9 c with
  |none=>simp[b]at a
  |some e=>simp[b]at a;subst a;simp[tB b]
theorem uj.j9{σ:Sg}{cs:List M}{ds:List D}{a:Array Value}(h:uj σ cs a)(c:j9 cs=some ds):EQ σ.O σ.w ds a:=by
 have:=tB c;subst this;refine⟨by simpa using h.1,λb d v e f=> ?_⟩;have:=h.2 b (.d d) v (by simp[e]) f;cases this with
 |d h=>exact h
theorem ki.flat{σ:Sg}{cs:List M}{a:Array Value}(h:ki σ cs a): ∀(i:Nat) (v:Value),a[i]?=some v->flat v=true:=by
 intro i v b;have c:i<cs.length:=by
  rw[<-h.1];rcases aqh i a.size with h|h;exact h;simp[aqT h]at b
 exact(h.2 i cs[i] v (by simp[c]) b).2
theorem oC{P:Program}{σ:Sg}{t b off:Nat}{cs:List M}{d:Array Value}{T:Nat}{x:Nat×Nat}{m:M}(e:gu P t cs off=some m)
  (y:σ.w.heap[b]?=some (.cells d T x)) (E:cs.length<=d.size) (h: ∀(a:Nat) (m:M) (v:Value),cs[a]?=some m->d[a]?=some v->RM σ m v/\flat v=true):
  ∃u,(loadVar t ⟨b,off,none⟩).run P σ.w= .ok u σ.w/\RM σ m u:=by
 have p: ∀a,a<d.size->dY σ.w b a=some (d.getD a undef):=by
  intro a j;simp[dY,World.cell?,y,j]
 unfold gu at e;split at e
 ·rename_i c k q;cases l:Nat.ble (off+c) cs.length with
  |false=>simp[l]at e
  |true=>
   simp only[l,aqX,arv]at e;subst e;have F:off+c<=cs.length:=aq5 l;have n:jr P t c:=⟨k,q⟩;have r:(d.extract off (off+c)).size=c:=by simp;omega
   have z:(loadCellsFrom ⟨b,off,none⟩ 0 c #[]).run P σ.w= .ok (d.extract off (off+c)) σ.w:=by
    refine jG c 0 _ (by omega) (by simp) ?_;intro o A;rw[r]at A;rw[p _ (by omega)];have s:o<min (off+c) d.size-off:=by omega
    have:off+o<d.size:=by omega
    simp[s,this]
   have f:ki σ ((cs.drop off).take c) (d.extract off (off+c)):=by
    refine⟨by rw[r];simp;omega,λa m v w g=> ?_⟩;have j:a<c:=by
     rcases aqh a c with h|h
     ·exact h
     ·rw[aqT (by omega)]at g;cases g
    rw[nH cs off c a j]at w;refine h _ _ _ w ?_;rw[arG]at g;split at g
    ·exact g
    ·cases g
   refine⟨.agg (d.extract off (off+c)),by simp[loadVar,n.run,c9 q,loadCells,z],?_⟩;unfold pack;split
   ·rename_i B C;have G:=f;have:=uj.j9 ⟨f.1,λa m v i b=>(f.2 a m v i b).1⟩ C;exact .d (.agg B _ this.1 (f.flat) this.2)
   ·exact .agg _ _ f.1 f.flat (λa m v i b=>(f.2 a m v i b).1)
 ·rename_i k;have n:cj P t:=⟨k⟩;have s:off<cs.length:=by
   rcases aqh off cs.length with h|h
   ·exact h
   ·simp[aqj h]at e
  have D:σ.w.cell? ⟨b,off,none⟩=some (d.getD off undef):=p off (by omega);refine⟨d.getD off undef,by simp[loadVar,n.run,D],(h off m _ e (by simp[show off<d.size by omega])).1⟩
 ·cases e
def qw(tmps:Array Value):ResultVar->Sem Value
 | .tmp t=>pure (tmps.getD t undef)
 | .cell a t=>do loadVar t (<-asAddr (tmps.getD a undef))
theorem BX{X:bD}{σ:Sg}{MD:Nat->Nat}{st:St}{a:Act}(hi:cw X σ MD st a){r:ResultVar}{m:M}(h:AS X.P st r=some m):
  ∃u,(qw a.tmps r).run X.P σ.w= .ok u σ.w/\RM σ m u:=by
 unfold AS at h;split at h
 ·rename_i k;split at h
  ·rename_i E e;injection h with h;subst h
   obtain⟨u,f,c⟩:=hi.slot k _ e;cases c with
   |m c=>exact⟨u,by simp[qw,f],c⟩
  ·cases h
 ·rename_i k t;split at h
  ·rename_i u j e;split at h
   ·rename_i g w;obtain⟨q,f,c⟩:=hi.slot k _ e;cases c with
    |loc u j=>
     obtain⟨x,y,o,l⟩:=hi.box u g w;obtain⟨v,i,n⟩:=oC h o (by rw[l.1];exact aqd _) l.2;exact⟨v,by simp[qw,f,asAddr,i],n⟩
   ·cases h
  ·rename_i g j e;obtain⟨q,f,c⟩:=hi.slot k _ e;cases c with
   |m c=>cases c with
    |d c=>cases c with
     |aZ g j b D val z A B=>
      cases p:rH X.P t g j with
      |none=>simp[p]at h
      |some d=>
       simp[p]at h;subst h;obtain⟨v,i,n⟩:=wY p z A B;refine⟨v,?_,.d n⟩;simp only[Instr.loadAt,Instr.sureAddr]at i;simpa [qw,f,asAddr] using i
  ·rename_i s j e;split at h
   ·rename_i g C;obtain⟨q,f,c⟩:=hi.slot k _ e;cases c with
    |m c=>cases c with
     |ref s j F G=>
      obtain⟨x,y,o,l⟩:=hi.hinv.obj s (.box g) (by rw[hi.hH];exact C);obtain⟨v,i,n⟩:=oC h o (by rw[l.1];exact aqd _) l.2;exact⟨v,by simp[qw,f,asAddr,i],n⟩
   ·cases h
  ·cases h
theorem v5{X:bD}{σ:Sg}{MD:Nat->Nat}{st:St}{a:Act}(hi:cw X σ MD st a): ∀{rs:List ResultVar} {ms:List M},sV X.P st rs=some ms->
  ∃us:List Value,(rs.mapM (qw a.tmps)).run X.P σ.w= .ok us σ.w/\uj σ ms us.toArray
 | [],ms,b=>by simp[sV]at b;subst b;exact⟨[],by simp,rfl,by simp⟩
 |o::rs,ms,b=>by
  simp only[sV]at b;split at b
  ·rename_i m p h i;injection b with b;subst b
   obtain⟨g,j,k⟩:=BX hi h;obtain⟨us,l,f⟩:=v5 hi i;refine⟨g::us,?_,?_⟩
   ·rw[asF];simp only[Sem.run_bind,Sem.run_pure];rw[j];simp only[Result.andThen_ok];rw[l];simp
   ·refine⟨by simpa using f.1,λe n v c d=> ?_⟩;cases e with
    |zero=>simp at c d;subst c;subst d;exact k
    |succ e=>simp at c d;exact f.2 e n v c (by simpa using d)
  ·cases b
theorem FR{X:bD}{σ:Sg}{MD:Nat->Nat}{st:St}{a:Act}(hi:cw X σ MD st a){fn:Func}{m:M}(h:lj X.P fn st=some m):
  ∃u,(results fn a.tmps).run X.P σ.w= .ok u σ.w/\RM σ m u:=by
 unfold lj at h;cases d:sV X.P st fn.results.toList with
 |none=>simp[d]at h
 |some e=>
  simp[d]at h;subst h;obtain⟨c,g,b⟩:=v5 hi d;have k:c.length=e.length:=by simpa using b.1
  have i:(results fn a.tmps).run X.P σ.w= .ok (if h:c.toArray.size=1 then c.toArray[0]else .tuple c.toArray) σ.w:=by
   have j:results fn a.tmps=(do let f<-fn.results.mapM (qw a.tmps);pure (if h:f.size=1 then f[0]else .tuple f)):=by
    unfold results
    congr 1
   rw[j,asH];simp only[Sem.run_bind,Functor.map];simp only[Sem.run_bind'];rw[g];simp
  rw[i]
  match e,c,b,k with
  | [],[],b,_=>exact⟨_,rfl,by rw[as3 (by simp)];exact .cZ [] #[] W (by simp)⟩
  | [m],[u],b,_=>exact⟨_,rfl,by simp[uo];exact b.2 0 m u (by simp) (by simp)⟩
  |l::n::e,o::p::c,b,_=>
   refine⟨_,rfl,?_⟩;rw[as3 (by simp)];exact .cZ _ _ b.1 b.2
def rN(P:Program)(fn:Func)(post:M->Hp->Prop):Exit->St->Prop
 | .normal,s=> ∃m,lj P fn s=some m/\post m s.H
 | .ret,s=> ∃m,lj P fn s=some m/\post m s.H
 |_,_=>False
theorem CT.uq{P:Program}{f:Nat}{fn:Func}{c:Code}{ms:List M}{H:Hp}{post:M->Hp->Prop}(hf:P.funcs[f]?=some fn)(Q:fn.body=some c)
  {n:Nat} (R:fn.ntmps=n) (I:Nat.ble ms.length n=true) (h: ∀(S:Sg) (T:Nat->Nat->Prop),TC ⟨P,n,S,T,[]⟩ c ⟨qv 0 ms,[],H⟩ (rN P fn post)):CT P f ms H post:=by
 subst R;replace I:=aq5 I;intro o p y x U A;refine calls_of_wp hf Q ?_
 let z:bD:=⟨P,fn.ntmps,o,p,[]⟩
 have T9: ∀b a,nP p (λ_=>0) [] b a↔p b a:=by intro b a;simp[nP,get]
 have V:cw z o (λ_=>0) ⟨qv 0 ms,[],H⟩ {tmps:=y++Array.replicate (fn.ntmps-y.size) undef,defers:=[]} :=by
  refine⟨U,rfl,?_,?_,by simp[get],by simp[get],by simp[get],by simp[get],?_,dy.refl _,aW.refl _⟩
  ·have:=A.1;simp[z];omega
  ·intro t v X;obtain⟨_,m,q,rfl⟩:=w9 ms 0 t v X;simp at q;have J:t<y.size:=by
    rw[A.1];rcases aqh t ms.length with h|h;exact h;simp[aqj h]at q
   exact⟨y[t],by simp[asX,J],.m (A.2 t m _ q (by simp[J]))⟩
  ·exact⟨x.obj,x.inj,λb a=>by rw[x.own];simp[nP,get,z],λd j B q a u=>x.sep d j B q a (by simpa [nP,get] using u),λb a u=>x.lU b a (by simpa [nP,get] using u)⟩
 have ac:=h o p _ o.w ⟨o,λ_=>0,rfl,V⟩;refine wp_mono ac ?_;rintro e K w' ⟨C,D,k,NS,rfl,g⟩;have N:(∃m,lj P fn C=some m/\post m C.H)->K.defers= []/\ ∃v,(results fn K.tmps).run P k.w= .ok v k.w/\ ∃L F s,Ending.returned v= .returned L/\s.w=k.w/\post F s.H/\j_ s p/\RM s F L/\dy o s/\aW o s:=by
  rintro⟨m,B,q⟩;obtain⟨G,u,Y⟩:=FR g B;have E:dy k {k with O:= λb a=>p b a\/ ∃(d:Nat) (j:Ob),k.H[d]?=some j/\k.l d=b/\j.jy a} :=by
   refine⟨λb a v i w=>⟨i,λl=>w ?_⟩,λd r i=>⟨⟨r,i⟩,rfl⟩,λd r i=>⟨⟨r,i⟩,rfl⟩,λd r i=>⟨⟨r,i⟩,rfl⟩,λd i=>i,λd co ec Z r i=> .inr ⟨co,Z,r,i,aqd _,λ_=>⟨rfl,rfl,λMI d6 w=>⟨MI,w,rfl⟩⟩⟩,λ_ h=>⟨_,h⟩⟩;rw[g.hinv.own];rcases l with l|l
   ·exact .inl (.inl l)
   ·exact .inr l
  refine⟨g.defers,G,u,G,m,{k with O:= λb a=>p b a\/ ∃(d:Nat) (j:Ob),k.H[d]?=some j/\k.l d=b/\j.jy a},rfl,rfl,by rw[show k.H=C.H from g.hH];exact q,?_,?_,?_,?_⟩
  ·exact⟨λd j i=>(g.hinv.obj d j i).cB E (λd7 hx=>hx),g.hinv.inj,λb a=>ari,λd j i w a l=>g.hinv.sep d j i w a (.inl l),λb a l=>g.hinv.lU b a (.inl l)⟩
  ·exact Y.mono E
  ·exact g.mono.trans E
  ·exact⟨g.cp.os,g.cp.output,g.cp.tape,g.cp.size,g.cp.cp,g.cp.loc⟩
 cases e with
 |normal=>exact N D
 |ret=>exact N D
 |_=>exact D.elim
def St.fG(st:St):List Operand->Option (List M)
 | []=>some []
 |x::r=>match st.ev x,St.fG st r with
  |some (.m m),some ms=>some (m::ms)
  |_,_=>none
def St.gE(st:St):List Operand->Option (List D)
 | []=>some []
 |x::r=>match st.ev x,St.gE st r with
  |some (.m (.d d)),some ds=>some (d::ds)
  |_,_=>none
section ops
variable{X:bD}{st:St}{dst:Option Nat}{ty:Nat}{pos:String}{af:Array Edge}{g:Option (Nat×Bool)}
theorem cw.fG{σ:Sg}{MD:Nat->Nat}{a:Act}(hi:cw X σ MD st a): ∀{xs:List Operand} {ms:List M},st.fG xs=some ms->uj σ ms (xs.map a.eval).toArray
 | [],ms,b=>by simp[St.fG]at b;subst b;exact⟨rfl,by simp⟩
 |k::l,ms,b=>by
  simp only[St.fG]at b;split at b
  ·rename_i m n g h;injection b with b;subst b
   have f:=hi.fG h;have i:=hi.ev g;refine⟨by simpa using f.1,λe j v c d=> ?_⟩;cases e with
   |zero=>simp at c d;subst c;subst d;cases i with|m b=>exact b
   |succ e=>simp at c d;exact f.2 e j v c (by simpa using d)
  ·cases b
theorem cw.gE{σ:Sg}{MD:Nat->Nat}{a:Act}(hi:cw X σ MD st a): ∀{xs:List Operand} {ds:List D},st.gE xs=some ds->EQ σ.O σ.w ds (xs.map a.eval).toArray
 | [],g,b=>by simp[St.gE]at b;subst b;exact⟨rfl,by simp⟩
 |l::n,g,b=>by
  simp only[St.gE]at b;split at b
  ·rename_i m o h i;injection b with b;subst b
   have f:=hi.gE i;have j:=hi.o9 h;refine⟨by simpa using f.1,λe k v c d=> ?_⟩;cases e with
   |zero=>simp at c d;subst c;subst d;exact j
   |succ e=>simp at c d;exact f.2 e k v c (by simpa using d)
  ·cases b
class br(P:Program)(f:Nat):Prop where
 run: ∀(args:Array Value) (w:World),(callFunc f args).run P w= .ok (.enter f args) w
def AT(st:St)(post:List D->Prop):V->St->Prop:= λv s=> ∃r,v= .m (uo (r.map .d))/\post r/\s=st
theorem cE.Hm{o:Oper}{f:Nat}{ds:List D}{post:List D->Prop}(h:PT X.P f ds post)
  (m: ∀c a d,cw X a d st c-> ∃g,(execOp c.eval o).run X.P a.w= .ok (.enter f g) a.w/\EQ a.O a.w ds g):cE X o st (AT st post):=by
 intro c a d i;obtain⟨g,j,k⟩:=m c a d i;refine dv.enter j ((h a.O a.w g i.hinv.BU k).mono ?_);rintro e n ⟨v,l,rfl,p,q,r⟩;refine⟨v,rfl,_,st,{a with w:=n},d,⟨l,rfl,p,rfl⟩,rfl,i.ext q,.m ?_⟩;exact r.DD λb o v j k=>⟨j,k⟩
theorem Hn{f:Nat}{args:List Operand}{O_:Array Nat}{ds:List D}{post:List D->Prop}[hf:br X.P f](b:st.gE args=some ds)(h:PT X.P f ds post):
  cE X ⟨dst,.call ⟨.value (.func f),args.toArray,O_⟩,ty,pos,af,g⟩ st (AT st post):=by
 refine cE.Hm h λa d e c=>⟨(args.map a.eval).toArray,?_,c.gE b⟩
 simp only[execOp,resolve,Act.eval,Deferred.ofValue,invoke];simp[hf.run]
theorem zA{f:Nat}{args:List Operand}{O_:Array Nat}{ds:List D}{r:D}[hf:br X.P f](p:st.gE args=some ds)(h:PT X.P f ds (·= [r])):
  cE X ⟨dst,.call ⟨.value (.func f),args.toArray,O_⟩,ty,pos,af,g⟩ st (c_ (.m (.d r)) st):=by
 intro j k q s;have:=Hn (dst:=dst) (ty:=ty) (pos:=pos) (af:=af) (g:=g) (O_:=O_) p h j k q s;unfold dv at this⊢;generalize (execOp j.eval _).run X.P k.w=n at*;have m: ∀v a,AT st (·= [r]) v a->c_ (.m (.d r)) st v a:=by
  rintro v a ⟨w,rfl,rfl,rfl⟩;exact⟨rfl,rfl⟩
 cases n with
 |ok l t=>
  cases l<;>simp only at this⊢ <;>first
   |(obtain⟨v,a,b,c,d,i⟩:=this;exact⟨v,a,b,c,m _ _ d,i⟩)
   |exact this.mono λe x ⟨o,u,v,a,b,c,d,i⟩=>⟨o,u,v,a,b,c,m _ _ d,i⟩
   |exact this
 |halt l t=>exact this
theorem FT{x:Operand}{f:Nat}{j:List D}{args:List Operand}{O_:Array Nat}{ds:List D}{post:List D->Prop}(m:st.ev x=some (.m (.d (.fn f j))))[hf:br X.P f](n:st.gE args=some ds)
  (h:PT X.P f (ds++j) post):cE X ⟨dst,.call ⟨.value x,args.toArray,O_⟩,ty,pos,af,g⟩ st (AT st post):=by
 refine cE.Hm h λc w z k=> ?_
 have l:=k.o9 m;have e:=k.gE n;generalize o:c.eval x=y at l;cases l with
 |fn f A p q r=>
  refine⟨(args.map c.eval).toArray++p,?_,?_⟩
  ·simp only[execOp,resolve,o,Deferred.ofValue,invoke];simp[hf.run]
  ·refine⟨by have:=e.1;simp at this;simp[this,q],λi d v a b=> ?_⟩;have s:(args.map c.eval).toArray.size=ds.length:=e.1;rcases aqh i ds.length with t|u
   ·rw[aqf t]at a;rw[arH (by omega)]at b;exact e.2 i d v a b
   ·rw[aqm u]at a;rw[ar3 (by omega),s]at b;exact r _ d v a b
theorem AU{f:Nat}{a:List Operand}{ds:List D}(d:st.gE a=some ds):
  cE X ⟨dst,.makeFunc (.func f) #[] a.toArray,ty,pos,af,g⟩ st (c_ (.m (.d (.fn f ds))) st):=by
 refine MQ λc h i e=> ?_
 have b:=e.gE d;exact⟨.func (.func f) #[] (a.map c.eval).toArray,by simp[execOp,Instr.makeFunc],.m (.d (.fn f ds _ b.1 b.2))⟩
theorem qx{σ:Sg}{a:Nat->Nat->Prop}(h:j_ σ a){b:Nat}(c:a b 0): ∀(i:Nat) ob,σ.H[i]?=some ob->ob.live->σ.l i≠b:=by
 intro i ob d e f;exact h.sep i ob d e 0 (by rw[f];exact c)
theorem cE.Ho{o:Oper}{f:Nat}{ms:List M}{post:M->Hp->Prop}(h:CT X.P f ms st.H post)
  (t: ∀j c g,cw X c g st j-> ∃k,(execOp j.eval o).run X.P c.w= .ok (.enter f k) c.w/\uj c ms k):
  cE X o st (λv s=> ∃r H',v= .m r/\post r H'/\s=⟨st.sl,st.bx,H'⟩):=by
 intro j c g a;obtain⟨k,u,w⟩:=t j c g a;refine dv.enter u ((h c _ k a.hinv a.hH w).mono ?_);rintro e G ⟨v,r,l,rfl,rfl,x,y,z,m,p⟩;refine⟨v,rfl,.m r,⟨st.sl,st.bx,l.H⟩,l,g,⟨r,l.H,rfl,x,rfl⟩,rfl,?_,.m z⟩;refine⟨rfl,a.defers,a.size,λd v i=>let⟨q,A,B⟩:=a.slot d v i;⟨q,A,B.mono m⟩,?_,a.rm,a.rI,a.rJ,y,a.mono.trans m,a.cp.trans p⟩;intro d n i;have C:=(a.box d n i).lt trivial;have D:=qx a.hinv (b:=g d) (.inr ⟨d,n,i,rfl⟩);refine(a.box d n i).cB m λF E=> ?_
 rw[p.cp _ C D];exact E
theorem vj{f:Nat}{args:List Operand}{O_:Array Nat}{ms:List M}{post:M->Hp->Prop}[hf:br X.P f](b:st.fG args=some ms)(h:CT X.P f ms st.H post):
  cE X ⟨dst,.call ⟨.value (.func f),args.toArray,O_⟩,ty,pos,af,g⟩ st (λv s=> ∃r H',v= .m r/\post r H'/\s=⟨st.sl,st.bx,H'⟩):=by
 refine cE.Ho h λa d e c=>⟨(args.map a.eval).toArray,?_,c.fG b⟩
 simp only[execOp,resolve,Act.eval,Deferred.ofValue,invoke];simp[hf.run]
end ops
def cU(w:World)(b:Nat)(x:Obj):World:= {w with heap:=w.heap.setIfInBounds b x}
theorem fL{w:World}{b:Nat}{x:Obj}(a:b<w.heap.size):(cU w b x).heap[b]?=some x:=by simp[cU,a]
theorem iW{w:World}{b c:Nat}{x:Obj}(h:c≠b):(cU w b x).heap[c]?=w.heap[c]?:=by
 simp[cU,ara (aq7 h)]
theorem jR{w:World}{b:Nat}{x:Obj} :(cU w b x).heap.size=w.heap.size:=by simp[cU]
theorem w_{w:World}{b:Nat}{x y:Obj} :cU (cU w b x) b y=cU w b y:=by
 unfold cU
 congr 1
 apply asm;intro c;by_cases a:c=b
 ·subst a;simp[Array.getElem?_setIfInBounds]
 ·simp[ara (aq7 a)]
theorem AV{w:World}{b:Nat}{x:Obj}(h:w.heap[b]?=some x):cU w b x=w:=by
 unfold cU;have:w.heap.setIfInBounds b x=w.heap:=by
  apply asm;intro a;by_cases e:a=b
  ·subst e;rw[asq];split<;>simp_all
  ·simp[ara (aq7 e)]
 rw[this]
theorem BY{w:World}{b o:Nat}{v:Value}{a:Array Value}{T:Nat}(h:w.heap[b]?=some (.cells a T (0,0))):
  w.setCell ⟨b,o,none⟩ v=cU w b (.cells (a.setIfInBounds o v) T (0,0)):=by
 unfold World.setCell cU
 congr 1
 apply asm;intro c;have d:=fK h;by_cases e:c=b
 ·subst e;simp only[asu,arR,h,ash,asq,d];simp
 ·simp[ara (aq7 e),asu,aq7 e]
def dZ(MI:Array Value)(off:Nat):List Value->Array Value
 | []=>MI
 |v::r=>dZ (MI.setIfInBounds off v) (off+1) r
theorem fM: ∀(c:List Value) (a:Array Value) (off:Nat),(dZ a off c).size=a.size
 | [],a,off=>rfl
 |v::b,a,off=>by simp[dZ,fM b]
theorem mF: ∀(c:List Value) (a:Array Value) (off k:Nat),off+c.length<=a.size->
  (dZ a off c)[k]?=if off<=k/\k<off+c.length then c[k-off]? else a[k]?
 | [],a,off,k,f=>by simp[dZ];intro i g;omega
 |v::b,a,off,k,f=>by
  simp at f;rw[dZ,mF b _ (off+1) k (by simp;omega)];by_cases e:k=off
  ·subst e;simp;have g:k<a.size:=by omega
   simp[g];intro d;omega
  ·by_cases h:off+1<=k/\k<off+1+b.length
   ·have d:off<=k/\k<off+(v::b).length:=by simp;omega
    rw[aqy h,aqy d];have:k-off=(k-(off+1))+1:=by omega
    rw[this];simp
   ·have d: ¬(off<=k/\k<off+(v::b).length):=by simp;omega
    rw[aqo h,aqo d];simp[ara (aq7 e)]
theorem DE{P:Program}{w:World}{b o:Nat}{v:Value}{a:Array Value}{T:Nat}(h:w.heap[b]?=some (.cells a T (0,0)))(c:o<a.size)(hf:flat v=true):
  (store ⟨b,o,none⟩ v).run P w= .ok () (cU w b (.cells (a.setIfInBounds o v) T (0,0))):=by
 have d:w.cell? ⟨b,o,none⟩=some a[o]:=by simp[World.cell?,h,c]
 have e:w.frozen? ⟨b,o,none⟩=false:=by simp[World.frozen?,h]
 unfold store;cases v<;>simp[flat]at hf<;>simp[Sem.run,d,e,BY h]
theorem nr{P:Program}{b off T:Nat} : ∀(d:List Value) (i:Nat) (w:World) (a:Array Value),w.heap[b]?=some (.cells a T (0,0))->off+i+d.length<=a.size->(∀v∈d,flat v=true)->
  (storeCells ⟨b,off,none⟩ d i).run P w= .ok () (cU w b (.cells (dZ a (off+i) d) T (0,0)))
 | [],i,w,a,c,_,_=>by simp[storeCells,dZ,AV c]
 |v::f,i,w,a,c,g,e=>by
  simp at g;have h:=DE (P:=P) (o:=off+i) c (by omega) (e v (by simp));rw[storeCells];simp only[Sem.run_bind,li];rw[h];simp only[Result.andThen_ok];have j:(cU w b (.cells (a.setIfInBounds (off+i) v) T (0,0))).heap[b]?=some (.cells (a.setIfInBounds (off+i) v) T (0,0)):=fL (fK c);rw[nr f (i+1) _ _ j (by simp;omega) (λv k=>e v (by simp[k]))];rw[w_];rfl
theorem pF{P:Program}{w:World}{b off T t:Nat}{c:Array Value}{v:Value}(h:w.heap[b]?=some (.cells c T (0,0)))(e:fu P t=some v.cells.size)(f:off+v.cells.size<=c.size)
  (hf: ∀(d:Nat) a,v.cells[d]?=some a->flat a=true):
  (storeVar t ⟨b,off,none⟩ v).run P w= .ok () (cU w b (.cells (dZ c off v.cells.toList) T (0,0))):=by
 unfold storeVar;simp only[Sem.run_bind,c9 e,Result.andThen_ok];simp;have:=nr (P:=P) (off:=off) v.cells.toList 0 w c h (by simpa using f) (by
  intro a g;obtain⟨d,i⟩:=aqG.1 g;exact hf d a (by simpa using i))
 simpa using this
theorem ki.write{σ:Sg}{cs c MY:List M}{i:Array Value}{j:Array Value}{off:Nat}(h:ki σ cs i)(k:ki σ c j)(f:dI cs off c=some MY):
  ki σ MY (dZ i off j.toList)/\off+c.length<=cs.length/\MY.length=cs.length:=by
 unfold dI at f;cases g:Nat.ble (off+c.length) cs.length with
 |false=>simp[g]at f
 |true=>
  simp only[g,aqX,arv]at f;subst f;have o:=aq5 g;have p:=h.1;have n:=k.1;refine⟨⟨?_,?_⟩,o,?_⟩
  ·rw[fM,h.1];simp;omega
  ·intro b m v a d;rw[mF _ _ _ _ (by simp;omega)]at d;simp only[Array.length_toList,n]at d;by_cases e:off<=b/\b<off+c.length
   ·rw[aqy e]at d;rw[aqD,aqm (by simp;omega),aqf (by simp;omega)]at a;have:b-(List.take off cs).length=b-off:=by simp;omega
    rw[this]at a;exact k.2 _ _ _ a (by simpa using d)
   ·rw[aqo e]at d;refine h.2 b m v ?_ d;rw[aqD]at a;rcases aqh b off with l|l
    ·rw[aqf (by simp;omega),asc l]at a;exact a
    ·rw[aqm (by simp;omega),aqm (by simp;omega),asn]at a;have:off+c.length+(b-(List.take off cs).length-c.length)=b:=by simp;omega
     rw[this]at a;exact a
  ·simp;omega
theorem dy.cU{σ:Sg}{b T:Nat}{l j:Array Value}(h:σ.w.heap[b]?=some (.cells l T (0,0)))(o:j.size=l.size)(p: ∀g,¬σ.O b g->j[g]?=l[g]?):
  dy σ {σ with w:=cU σ.w b (.cells j T (0,0))} :=by
 have m:=fK h;refine⟨?_,λi d a=>⟨⟨d,a⟩,rfl⟩,λi d a=>⟨⟨d,a⟩,rfl⟩,λi d a=>⟨⟨d,a⟩,rfl⟩,λi a=>a,?_,λ_ h=>⟨_,h⟩⟩
 ·intro c g v k n;refine⟨?_,n⟩;by_cases e:c=b
  ·subst e;simp only[dY,World.cell?,h]at k;simp only[dY,World.cell?,fL m];simp at k⊢;rw[p g n];exact k
  ·rw[mE (iW e)];exact k
 ·intro i u x q d a;refine .inr ⟨u,q,d,a,aqd _,λ_=>⟨rfl,rfl,λr y f=> ?_⟩⟩;by_cases e:σ.l i=b
  ·rw[e]at f⊢;rw[h]at f;injection f with f;injection f with s t
   subst s;subst t;exact⟨j,fL m,o⟩
  ·exact⟨r,by rw[iW e];exact f,rfl⟩
section ops
variable{X:bD}{st:St}{dst:Option Nat}{ty:Nat}{pos:String}{af:Array Edge}{g:Option (Nat×Bool)}
theorem zC{T:Nat}{x:Operand}{t off:Nat}{cs:List M}{m:M}(e:st.ev x=some (.loc t off))(f:get st.bx t=some cs)(h:gu X.P T cs off=some m):
  cE X ⟨dst,.load T x,ty,pos,af,g⟩ st (c_ (.m m) st):=by
 refine MQ λd n p b=> ?_
 have a:=b.ev e;generalize i:d.eval x=o at a;cases a with
 |loc t off=>
  obtain⟨q,r,j,c⟩:=b.box t cs f;obtain⟨v,k,l⟩:=oC h j (by rw[c.1];exact aqd _) c.2;exact⟨v,by simp[execOp,i,Instr.loadAt,Instr.sureAddr,k],.m l⟩
theorem tD{T:Nat}{x:Operand}{t off:Nat}{cs:List M}{m:M}[ht:cj X.P T](a:st.ev x=some (.loc t off))(b:get st.bx t=some cs)(c:cs[off]?=some m):
  cE X ⟨dst,.load T x,ty,pos,af,g⟩ st (c_ (.m m) st):=
 zC a b (by simp[gu,ht.cell,c])
theorem xa{T n:Nat}{x:Operand}{t off:Nat}{cs:List M}{ds:List D}[ht:jr X.P T n](a:st.ev x=some (.loc t off))(b:get st.bx t=some cs)(c:Nat.ble (off+n) cs.length=true)
  (d:j9 ((cs.drop off).take n)=some ds):cE X ⟨dst,.load T x,ty,pos,af,g⟩ st (c_ (.m (.d (.agg ds))) st):=
 zC a b (by simp[gu,ht.agg,ht.size,c,pack,d])
theorem bM{a:Type}{l:List (Nat×a)}{k t:Nat}{v w:a}(h:get ((k,v)::l) t=some w):(t=k/\w=v)\/(t≠k/\get l t=some w):=by
 rw[bJ]at h;by_cases e:k=t
 ·rw[aqy e]at h;injection h with h;exact .inl ⟨e.symm,h.symm⟩
 ·rw[aqo e]at h;exact .inr ⟨λh=>e h.symm,h⟩
theorem cw.Jc{σ:Sg}{MD:Nat->Nat}{a:Act}{t T:Nat}{cs MY:List M}{x l:Array Value}(hi:cw X σ MD st a)(m:get st.bx t=some cs)(h:σ.w.heap[MD t]?=some (.cells x T (0,0)))
  (B:l.size=x.size) (C:ki {σ with w:=cU σ.w (MD t) (.cells l T (0,0))} MY l):
  cw X {σ with w:=cU σ.w (MD t) (.cells l T (0,0))} MD ⟨st.sl,(t,MY)::st.bx,st.H⟩ a:=by
 have D: ∀g,σ.O (MD t) g:= λg=>(hi.hinv.own _ _).2 (.inl (.inr ⟨t,cs,m,rfl⟩))
 have p:dy σ {σ with w:=cU σ.w (MD t) (.cells l T (0,0))} :=dy.cU h B (λg E=>(E (D g)).elim);have r: ∀b g,nP X.jF MD ((t,MY)::st.bx) b g↔nP X.jF MD st.bx b g:=by
  intro b g;constructor
  ·rintro(d|⟨c,f,d,k⟩)
   ·exact .inl d
   ·rcases bM d with⟨rfl,rfl⟩|⟨j,i⟩
    ·exact .inr ⟨c,cs,m,k⟩
    ·exact .inr ⟨c,f,i,k⟩
  ·rintro(d|⟨c,f,d,k⟩)
   ·exact .inl d
   ·by_cases e:t=c
    ·subst e;exact .inr ⟨t,MY,by simp[bJ],k⟩
    ·exact .inr ⟨c,f,by simp[bJ,e,d],k⟩
 have F:=qx hi.hinv (b:=MD t) (.inr ⟨t,cs,m,rfl⟩);have q: ∀c f,get ((t,MY)::st.bx) c=some f-> ∃G,get st.bx c=some G:=by
  intro c f d;rcases bM d with⟨rfl,rfl⟩|⟨j,i⟩
  ·exact⟨cs,m⟩
  ·exact⟨f,i⟩
 refine⟨hi.hH,hi.defers,hi.size,λc v j=>let⟨z,i,s⟩:=hi.slot c v j;⟨z,i,s.mono p⟩,?_,?_,?_,?_,?_,hi.mono.trans p,?_⟩
 ·intro c f d;rcases bM d with⟨rfl,rfl⟩|⟨j,i⟩
  ·exact⟨l,T,fL (fK h),C⟩
  ·refine(hi.box c f i).cB p λA u=> ?_
   rw[iW (λe=>j (hi.rm c t f cs i m e))];exact u
 ·intro c v f H d k j;obtain⟨_,i⟩:=q c f d;obtain⟨_,s⟩:=q v H k;exact hi.rm c v _ _ i s j
 ·intro c f d;obtain⟨_,i⟩:=q c f d;exact hi.rI c _ i
 ·intro c f d;obtain⟨_,i⟩:=q c f d;exact hi.rJ c _ i
 ·refine⟨?_,hi.hinv.inj,λb g=>by rw[r];exact hi.hinv.own b g,λo n d k g j=>hi.hinv.sep o n d k g ((r _ _).1 j),λb g j=>by show b<(cU _ _ _).heap.size;rw[jR];exact hi.hinv.lU b g ((r _ _).1 j)⟩;intro o n d;by_cases y:n.live
  ·refine(hi.hinv.obj o n d).cB p λA u=> ?_
   rw[iW (F o n d y)];exact u
  ·cases n<;>first|trivial|exact(y trivial).elim
 ·refine⟨hi.cp.os,hi.cp.output,hi.cp.tape,by show _<=(cU _ _ _).heap.size;rw[jR];exact hi.cp.size,?_,hi.cp.loc⟩;intro b I J;rw[iW ?_]
  ·exact hi.cp.cp b I J
  ·intro e;have:=hi.rJ t cs m;omega
theorem xb{T n:Nat}{x y:Operand}{t off:Nat}{cs MY:List M}{m:M}(q:st.ev x=some (.loc t off))(r:st.ev y=some (.m m))(h:get st.bx t=some cs)
  [s:bU X.P T n] (u:(cellsOf m).length=n) (v:m.iG=true) (z:dI cs off (cellsOf m)=some MY):
  cE X ⟨dst,.store T x y,ty,pos,af,g⟩ st (c_ (.m .undef) ⟨st.sl,(t,MY)::st.bx,st.H⟩):=by
 intro c a e b;have k:=b.ev q;have i:=b.ev r;generalize A:c.eval x=I at k;cases k with
 |loc t off=>
  cases i with
  |m i=>
   obtain⟨l,o,j,p⟩:=b.box t cs h;have f:=i.cells v;have B: ∀d,a.O (e t) d:= λd=>(b.hinv.own _ _).2 (.inl (.inr ⟨t,cs,h,rfl⟩))
   obtain⟨C,D,J⟩:=p.write f z;have E:(c.eval y).cells.size=n:=by rw[f.1,u]
   have F:=pF (P:=X.P) (t:=T) (off:=off) j (by rw[s.size,E]) (by rw[p.1,f.1];exact D) f.flat;refine dv.skip (by simp only[execOp,A,Instr.storeAt,Instr.sureAddr];simp[F];rfl) ?_;have G:dy a {a with w:=cU a.w (e t) (.cells (dZ l off (c.eval y).cells.toList) o (0,0))} :=dy.cU j (fM _ _ _) (λd H=>(H (B d)).elim);exact⟨.m .undef,_,{a with w:=cU a.w (e t) (.cells (dZ l off (c.eval y).cells.toList) o (0,0))},e,⟨rfl,rfl⟩,rfl,b.Jc h j (fM _ _ _) (C.mono G),.m (.undef _)⟩
end ops
def gI(t:Nat):List (Nat×V)->Bool
 | []=>true
 |(_,.loc u _)::r=> !Nat.beq u t&&gI t r
 |_::r=>gI t r
theorem xc: ∀{l:List (Nat×V)} {t k o:Nat},gI t l=true->get l k≠some (.loc t o):=by
 intro l
 induction l with
 |nil=>intro t k o _ e;simp[get]at e
 |cons j l g=>
  intro t k o f e;obtain⟨p,h⟩:=j;cases h with
  |m m=>
   rcases bM e with⟨rfl,a⟩|⟨i,a⟩
   ·cases a
   ·exact g f a
  |tl q b c d=>
   rcases bM e with⟨rfl,a⟩|⟨i,a⟩
   ·cases a
   ·exact g f a
  |loc h r=>
   simp only[gI,aqB,arn]at f;rcases bM e with⟨rfl,a⟩|⟨i,a⟩
   ·injection a with n s;subst n;simp at f
   ·exact g f.2 a
def cO(t:Nat):List (Nat×V)->List (Nat×V)
 | []=>[]
 |(k,.loc u o)::r=>bif Nat.beq u t then(k,.m .undef)::cO t r else(k,.loc u o)::cO t r
 |(k,.m m)::r=>(k,.m m)::cO t r
 |(k,.tl a b c d)::r=>(k,.tl a b c d)::cO t r
theorem ze: ∀{l:List (Nat×V)} {t k:Nat} {v:V},get (cO t l) k=some v->(v= .m .undef/\ ∃u,get l k=some u)\/(get l k=some v/\ ∀o,v≠ .loc t o):=by
 intro l
 induction l with
 |nil=>intro t k v a;simp[cO,get]at a
 |cons j l h=>
  intro t k v a;obtain⟨p,u⟩:=j;cases u with
  |m m=>
   unfold cO at a;rcases bM a with⟨rfl,rfl⟩|⟨f,g⟩
   ·exact .inr ⟨by simp[bJ],λo a=>by cases a⟩
   ·rw[bJ,aqo (λe=>f e.symm)];exact h g
  |tl q b c d=>
   unfold cO at a;rcases bM a with⟨rfl,rfl⟩|⟨f,g⟩
   ·exact .inr ⟨by simp[bJ],λo a=>by cases a⟩
   ·rw[bJ,aqo (λe=>f e.symm)];exact h g
  |loc u o=>
   unfold cO at a;cases i:Nat.beq u t with
   |false=>
    rw[i]at a;rcases bM a with⟨rfl,rfl⟩|⟨f,g⟩
    ·exact .inr ⟨by simp[bJ],λr a=>by injection a with n s;subst n;simp at i⟩
    ·rw[bJ,aqo (λe=>f e.symm)];exact h g
   |true=>
    rw[i]at a;rcases bM a with⟨rfl,rfl⟩|⟨f,g⟩
    ·exact .inl ⟨rfl,.loc u o,by simp[bJ]⟩
    ·rw[bJ,aqo (λe=>f e.symm)];exact h g
section ops
variable{X:bD}{st:St}{dst:Option Nat}{ty:Nat}{pos:String}{af:Array Edge}{g:Option (Nat×Bool)}
theorem cw.ES{σ:Sg}{MD:Nat->Nat}{a:Act}{d T:Nat}{cs:List M}{r:Array Value}(hi:cw X σ MD st a)(z:ki σ cs r):
  ∃s h,s.w= {σ.w with heap:=σ.w.heap.push (.cells r T (0,0))} /\h d=σ.w.heap.size/\cw X s h ⟨cO d st.sl,(d,cs)::st.bx,st.H⟩ a:=by
 let b:=σ.w.heap.size
 let t:World:= {σ.w with heap:=σ.w.heap.push (.cells r T (0,0))}
 let h:Nat->Nat:= λf=>if f=d then b else MD f
 have u:fJ σ.w t:=fJ.alloc _ _
 let D:Nat->Nat->Prop:= λc l=>nP X.jF h ((d,cs)::st.bx) c l\/ ∃(i:Nat) (o:Ob),σ.H[i]?=some o/\σ.l i=c/\o.jy l
 let s:Sg:=⟨t,D,σ.l,σ.H⟩
 have A: ∀f n,get st.bx f=some n->MD f<b:= λf n p=>(hi.box f n p).lt trivial
 have U: ∀c l,c<b->D c l->σ.O c l:=by
  intro c l Y p;rw[hi.hinv.own];rcases p with(p|⟨f,n,e,j⟩)|p
  ·exact .inl (.inl p)
  ·rcases bM e with⟨rfl,rfl⟩|⟨g,k⟩
   ·simp[h]at j;omega
   ·simp[h,g]at j;exact .inl (.inr ⟨f,n,k,j⟩)
  ·exact .inr p
 have w:dy σ s:=by
  refine⟨λc l v e j=>⟨u.cell e,λg=>j (U c l (lC e) g)⟩,λi cs e=>⟨⟨cs,e⟩,rfl⟩,λi cs e=>⟨⟨cs,e⟩,rfl⟩,λi cs e=>⟨⟨cs,e⟩,rfl⟩,λi e=>e,
   λi V Z H cs e=> .inr ⟨V,H,cs,e,aqd _,λ_=>⟨rfl,rfl,λr T I=>⟨r,u.heap I,rfl⟩⟩⟩,λ_ p=>⟨_,p⟩⟩
 have J: ∀(i:Nat) o,σ.H[i]?=some o->o.live->σ.l i<b:= λi o e j=>(hi.hinv.obj i o e).lt j
 refine⟨s,h,rfl,by simp[h,b],?_⟩;refine⟨hi.hH,hi.defers,hi.size,?_,?_,?_,?_,?_,?_,hi.mono.trans w,?_⟩
 ·intro C v p;rcases ze p with⟨rfl,f,e⟩|⟨e,j⟩
  ·obtain⟨y,g,_⟩:=hi.slot C f e;exact⟨y,g,.m (.undef _)⟩
  ·obtain⟨y,g,k⟩:=hi.slot C v e;refine⟨y,g,?_⟩;cases k with
   |m k=>exact .m (k.mono w)
   |tl i K L N O P Q R=>exact RV.mono (MD:=h) w (.tl i K L N O P Q R)
   |loc f l=>
    have S:f≠d:=by rintro rfl;exact j l W
    have:h f=MD f:=by simp[h,S]
    rw[<-this];exact .loc f l
 ·intro f n e;rcases bM e with⟨rfl,rfl⟩|⟨g,k⟩
  ·refine⟨r,T,?_,z.mono w⟩;simp[h,s,t,b]
  ·have:h f=MD f:=by simp[h,g]
   rw[this];exact(hi.box f n k).cB w λG B=>u.heap B
 ·intro f v n E e j g;rcases bM e with⟨rfl,rfl⟩|⟨k,q⟩<;>rcases bM j with⟨rfl,rfl⟩|⟨x,F⟩
  ·rfl
  ·simp[h,x]at g;have:=A v E F;omega
  ·simp[h,k]at g;have:=A f n q;omega
  ·simp[h,k,x]at g;exact hi.rm f v n E q F g
 ·intro f n e l j;rcases bM e with⟨rfl,rfl⟩|⟨k,q⟩
  ·simp[h]at j;have:=hi.hinv.lU _ _ (.inl j);simp[b]at this
  ·simp[h,k]at j;exact hi.rI f n q l j
 ·intro f n e;rcases bM e with⟨rfl,rfl⟩|⟨k,q⟩
  ·simp[h];exact hi.cp.size
  ·simp[h,k];exact hi.rJ f n q
 ·refine⟨λi o e=>(hi.hinv.obj i o e).cB w λG B=>u.heap B,hi.hinv.inj,λc l=>ari,?_,?_⟩
  ·intro i o e j l g;have MV:=J i o e j;rcases g with g|⟨f,n,g,k⟩
   ·exact hi.hinv.sep i o e j l (.inl g)
   ·rcases bM g with⟨rfl,rfl⟩|⟨q,x⟩
    ·simp[h]at k;change b=σ.l i at k;omega
    ·simp[h,q]at k;exact hi.hinv.sep i o e j l (.inr ⟨f,n,x,k⟩)
  ·intro c l g;have hw:t.heap.size=b+1:=by simp[t,b]
   show c<t.heap.size;rcases g with g|⟨f,n,g,k⟩
   ·have:=hi.hinv.lU c l (.inl g);omega
   ·rcases bM g with⟨rfl,rfl⟩|⟨q,x⟩
    ·simp[h]at k;omega
    ·simp[h,q]at k;have:=A f n x;omega
 ·refine hi.cp.trans ⟨rfl,rfl,rfl,u.size,λc z _=>u.cp c z,λi o e j=> .inr ⟨o,e,j,rfl⟩⟩
class wH(P:Program)(t:Nat)(z:outParam D):Prop where
 run: ∃v,(∀w,(zeroValue t).run P w= .ok v w)/\qu v=some z
theorem fY{P:Program}{t:Nat}{z:D}(h:sU P t=some z):wH P t z:=by
 unfold sU at h;split at h
 ·rename_i c a;split at h
  ·rename_i v b;exact⟨v,λd=>by simp[zeroValue,typeInfo,program,Sem.run,a,b],h⟩
  ·cases h
 ·cases h
theorem zD{T d:Nat}{z:D}[b:wH X.P T z]:
  cE X ⟨some d,.alloc T,ty,pos,af,g⟩ st (c_ (.loc d 0) ⟨cO d st.sl,(d,(bf z).map .d)::st.bx,st.H⟩):=by
 intro o a p c;obtain⟨v,e,f⟩:=b.run;have h:RM a (.d z) v:= .d (eJ f);have i:=h.cells W;obtain⟨j,k,l,m,n⟩:=c.ES (d:=d) (T:=T) i;refine dv.value (u:= .pointer (some ⟨a.w.heap.size,0,none⟩)) (w':= {a.w with heap:=a.w.heap.push (.cells v.cells T (0,0))}) ?_ ⟨.loc d 0,_,j,k,⟨rfl,rfl⟩,l,n,?_⟩
 ·simp[execOp,Instr.alloc,e,newVar,newRow,newObj,Sem.run]
 ·rw[<-m];exact .loc d 0
theorem Hq{T d:Nat}{x:Operand}{m:M}(f:st.ev x=some (.m m))(h:m.iG=true):
  cE X ⟨some d,.box T x,ty,pos,af,g⟩ st (c_ (.loc d 0) ⟨cO d st.sl,(d,cellsOf m)::st.bx,st.H⟩):=by
 intro e a p c;have b:=c.ev f;cases b with
 |m b=>
  have i:=b.cells h;obtain⟨j,k,l,n,o⟩:=c.ES (d:=d) (T:=T) i;refine dv.value (u:= .pointer (some ⟨a.w.heap.size,0,none⟩)) (w':= {a.w with heap:=a.w.heap.push (.cells (e.eval x).cells T (0,0))}) ?_ ⟨.loc d 0,_,j,k,⟨rfl,rfl⟩,l,o,?_⟩
  ·simp[execOp,Instr.box,newVar,newRow,newObj,Sem.run]
  ·rw[<-n];exact .loc d 0
end ops
theorem nJ: ∀(b:List Value) (k off:Nat) (a:Array Value),
  (b.zipIdx k).foldl (λcs (x:Value×Nat)=>cs.setIfInBounds (off+x.2) x.1) a=dZ a (off+k) b
 | [],k,off,a=>rfl
 |v::c,k,off,a=>by
  rw[List.zipIdx_cons,ars,nJ c (k+1) off];rfl
def fN(place:Nat->Option (Nat×Nat))(cs:List M):List (Nat×M)->Option (List M)
 | []=>some cs
 |(i,m)::r=>match place i with
  |some (off,size)=>bif (Nat.beq (cellsOf m).length size&&m.iG)then(match dI cs off (cellsOf m)with
   |some MY=>fN place MY r
   |none=>none)else none
  |none=>none
theorem pV{σ:Sg}{w:Nat->Option (Nat×Nat)} : ∀{parts:List (Nat×M)} {h:List (Nat×Value)} {cs MY:List M} {c:Array Value},ki σ cs c->
  parts.length=h.length->(∀(k:Nat) p q,parts[k]?=some p->h[k]?=some q->p.1=q.1/\RM σ p.2 q.2)->fN w cs parts=some MY->
  ∃g,Instr.fill w c h=some g/\ki σ MY g
 | [],[],cs,MY,c,f,_,_,a=>by simp[fN]at a;subst a;exact⟨c,rfl,f⟩
 |p::G,q::H,cs,MY,c,f,d,n,a=>by
  obtain⟨E,m⟩:=p;obtain⟨F,v⟩:=q;obtain⟨o,r⟩:=n 0 _ _ W W;simp at o r;subst o;unfold fN at a;split at a
  ·rename_i j u y;cases e:(Nat.beq (cellsOf m).length u&&m.iG)with
   |false=>simp[e]at a
   |true=>
    simp only[e,aqX]at a;simp only[aqB]at e;have z:=aqr e.1;split at a
    ·rename_i I A;have i:=r.cells e.2;obtain⟨B,J,K⟩:=f.write i A;obtain⟨g,s,C⟩:=pV B (by simpa using d) (λk p q x b=>n (k+1) p q (by simpa using x) (by simpa using b)) a;refine⟨g,?_,C⟩;unfold Instr.fill;simp only[y];have t:v.cells.size=u:=by rw[i.1,z]
     have D: ¬(j+v.cells.size>c.size):=by rw[i.1,f.1];omega
     rw[aqo (by simp[t];rw[t]at D;omega)];have:v.cells.zipIdx.foldl (λcs (l:Value×Nat)=>cs.setIfInBounds (j+l.2) l.1) c=dZ c j v.cells.toList:=by
      rw[<-Array.foldl_toList,Array.toList_zipIdx,nJ];rfl
     rw[<-this]at s;exact s
    ·cases a
  ·cases a
 | [],_::_,_,_,_,_,d,_,_=>by simp at d
 |_::_,[],_,_,_,_,d,_,_=>by simp at d
def pW(P:Program)(t:Nat):Option (List (Nat×Nat)):=
 match P.underlying t with
 |some (.struct fields)=>fields.toList.mapM λf=>(fu P f.type).map λn=>(f.offset,n)
 |_=>none
class jS(P:Program)(t:Nat)(AW:outParam (List (Nat×Nat)))(z:outParam (List D)):Prop where
 AW:pW P t=some AW
 zero:sU P t=some (.agg z)
theorem ur{P:Program}{w:World} : ∀{b:List Field} {ps:List (Nat×Nat)},(b.mapM λf=>(fu P f.type).map λn=>(f.offset,n))=some ps->
  (b.mapM λf=>(do pure (f.offset,<-sizeOf f.type):Sem (Nat×Nat))).run P w= .ok ps w
 | [],ps,a=>by simp at a;subst a;simp
 |f::b,ps,a=>by
  rw[asF]at a;cases c:fu P f.type with
  |none=>simp[c]at a
  |some n=>
   simp only[c,ash,Option.bind_eq_bind,asO]at a;cases d:(b.mapM λf=>(fu P f.type).map λn=>(f.offset,n))with
   |none=>simp[d]at a
   |some e=>
    simp[d]at a;subst a;rw[asF];simp only[Sem.run_bind,c9 c,Result.andThen_ok,Sem.run_pure,ur d]
def dU(st:St):List (Nat×Operand)->Option (List (Nat×M))
 | []=>some []
 |(i,x)::r=>match st.ev x,dU st r with
  |some (.m m),some ms=>some ((i,m)::ms)
  |_,_=>none
section ops
variable{X:bD}{st:St}{dst:Option Nat}{ty:Nat}{pos:String}{af:Array Edge}{g:Option (Nat×Bool)}
theorem cw.dU{σ:Sg}{MD:Nat->Nat}{a:Act}(hi:cw X σ MD st a): ∀{xs:List (Nat×Operand)} {ms:List (Nat×M)},dU st xs=some ms->
  ms.length=(xs.map λp=>(p.1,a.eval p.2)).length/\ ∀(k:Nat) p q,ms[k]?=some p->(xs.map λp=>(p.1,a.eval p.2))[k]?=some q->p.1=q.1/\RM σ p.2 q.2
 | [],ms,b=>by simp[Mt.dU]at b;subst b;simp
 |(j,l)::n,ms,b=>by
  simp only[Mt.dU]at b;split at b
  ·rename_i m o e f;injection b with b;subst b
   obtain⟨g,h⟩:=hi.dU f;have i:=hi.ev e;refine⟨by simpa using g,λk p q c d=> ?_⟩;cases k with
   |zero=>simp at c d;subst c;subst d;cases i with|m b=>exact⟨rfl,b⟩
   |succ k=>simp at c;exact h k p q c (by simpa using d)
  ·cases b
theorem vk{T:Nat}{parts:List (Nat×Operand)}{ps:List (Nat×Nat)}{z:List D}{ms:List (Nat×M)}{cs:List M}[ht:jS X.P T ps z](k:dU st parts=some ms)
  (hf:fN (λa=>ps[a]?) (z.map .d) ms=some cs):cE X ⟨dst,.build T parts.toArray,ty,pos,af,g⟩ st (c_ (.m (pack cs)) st):=by
 refine MQ λc e G l=> ?_
 obtain⟨n,o⟩:=l.dU k;have p: ∃v,(∀w,(zeroValue T).run X.P w= .ok v w)/\qu v=some (.agg z):=(fY ht.zero).run;obtain⟨v,q,r⟩:=p;have s:ki e (z.map .d) v.cells:=(RM.d (eJ r):RM e (.d (.agg z)) v).cells W;obtain⟨t,u,d⟩:=pV s n o hf;refine⟨.agg t,?_,.m ?_⟩
 ·have f:=ht.AW;unfold pW at f;split at f
  ·rename_i F x;have y:=ur (w:=e.w) f;have A:(F.mapM λi=>(do pure (i.offset,<-sizeOf i.type):Sem (Nat×Nat))).run X.P e.w= .ok ps.toArray e.w:=by
    rw[asH];simp only[Functor.map,Sem.run_bind'];rw[y];rfl
   simp only[execOp,Instr.build];simp only[Sem.run_bind,q,Result.andThen_ok,underlying,program,Sem.run,x,Sem.run_pure];simp only[A,Result.andThen_ok];have:(Array.map (λh:Nat×Operand=>match h with|(a,h)=>(a,c.eval h)) parts.toArray).toList=parts.map λj=>(j.1,c.eval j.2):=by simp
   simp only[this];have B:(λa:Nat=>ps.toArray[a]?)= λa:Nat=>ps[a]?:=by funext a;simp
   rw[B,u];simp
  ·cases f
 ·unfold pack;split
  ·rename_i C E;have:=uj.j9 ⟨d.1,λa m v c b=>(d.2 a m v c b).1⟩ E;exact .d (.agg C _ this.1 d.flat this.2)
  ·exact .agg _ _ d.1 d.flat (λa m v c b=>(d.2 a m v c b).1)
def d_(n len:Nat)(z:List D):List M:=(List.range (len*n)).map λi=> .d (z.getD (i%z.length) default)
theorem pd{n:Nat} : ∀{k:Nat} {cs:List M} {rows:List (List D)},chunk n k cs=some rows->cs.length=k*n->
  rows.length=k/\(∀r∈rows,r.length=n)/\ ∀(i j:Nat) r d,rows[i]?=some r->r[j]?=some d->cs[i*n+j]?=some (.d d)
 |0,[],rows,a,_=>by simp[chunk]at a;subst a;simp
 |0,_::_,rows,a,_=>by simp[chunk]at a
 |k+1,cs,rows,a,g=>by
  unfold chunk at a;split at a
  ·rename_i r v m o;injection a with a;subst a
   have p:(cs.drop n).length=k*n:=by simp[g,arP]
   obtain⟨q,s,t⟩:=pd o p;have h:=tB m;have l:r.length=n:=by
    have:=arI List.length h;simp at this;rw[g,arP]at this;omega
   refine⟨by simp[q],?_,?_⟩
   ·intro c b;simp at b;rcases b with rfl|b
    ·exact l
    ·exact s c b
   ·intro i j c d b f;cases i with
    |zero=>
     simp at b;subst b;have u:j<n:=by rw[<-l];rcases aqh j r.length with a|a;exact a;simp[aqj a]at f
     have:(cs.take n)[j]?=some (.d d):=by rw[h];simp[f]
     rw[asc u]at this;simpa using this
    |succ i=>
     simp at b;have:=t i j c d b f;rw[asn]at this;have e:(i+1)*n+j=n+(i*n+j):=by rw[arP];omega
     rw[e];exact this
  ·cases a
theorem gd.Hr{O:Nat->Nat->Prop}{w:World}{n k T:Nat}{rows:List (List D)}{i:Array Value}(A:0<n)(r: ∀b o,O b o->b<w.heap.size)(s:rows.length=k)(l: ∀f∈rows,f.length=n)
  (t:i.size=k*n) (u:k<=140737488355328) (h: ∀(a c:Nat) f d v,rows[a]?=some f->f[c]?=some d->i[a*n+c]?=some v->gd O w d v/\flat v=true):
  gd O {w with heap:=w.heap.push (.cells i T (0,0))} (.sl rows) (.slice (some ⟨w.heap.size,0,none⟩) k k):=by
 subst s;by_cases p:rows= []
 ·subst p;exact .slnil _
 ·have m: ∀a c,a<rows.length->c<n->a*n+c<i.size:=by
   intro a c e g;rw[t]
   calc a*n+c<a*n+n:=by omega
    _=(a+1)*n:=by rw[arP]
    _<=rows.length*n:=aqW _ e
  refine .sl rows w.heap.size 0 rows.length n (λa c=>i.getD (a*n+c) undef) p (aqd _) u l ?_ ?_ ?_
  ·intro a c e g;refine⟨?_,λx=>by have:=r _ _ x;omega⟩;rw[arF,wW];simp[m a c e g]
  ·intro a c e g;have j:rows[a].length=n:=l _ (aqz e);exact(h a c rows[a] (rows[a])[c] _ (by simp[e]) (by simp[j,g]) (by simp[m a c e g])).2
  ·intro a c f d j q;have e:a<rows.length:=by rcases aqh a rows.length with h|h;exact h;simp[aqj h]at j
   have g:c<n:=by
    rw[<-l f (aqk j)];rcases aqh c f.length with h|h;exact h;simp[aqj h]at q
   have:=(h a c f d (i.getD (a*n+c) undef) j q (by simp[m a c e g])).1;exact this.mono λb o v y z=>⟨(fJ.alloc w _).cell y,z⟩
theorem xe{T e n len:Nat}{parts:List (Nat×Operand)}{z:D}{ms:List (Nat×M)}{cs:List M}{rows:List (List D)}[ht:aQ X.P T e][u:bU X.P e n][J:gg X.P e z]
  (K:Nat.blt 0 n=true) (w:(bf z).length=n) (ac:Nat.ble (len*n) 16777216=true) (L:dU st parts=some ms)
  (hf:fN (λa=>some (a*n,n)) (d_ n len (bf z)) ms=some cs) (co:chunk n len cs=some rows):
  cE X ⟨dst,.buildSlice T len parts.toArray,ty,pos,af,g⟩ st (c_ (.m (.d (.sl rows))) st):=by
 refine cE.grow λf h MD x=> ?_
 have p:=bL K;have ZJ:=aq5 ac;obtain⟨N,O⟩:=x.dU L;obtain⟨v,P,Q⟩:=(fY J.zero).run;have y:ki h ((bf z).map .d) v.cells:=(RM.d (eJ Q):RM h (.d z) v).cells W;have R:v.cells.size=n:=by rw[y.1];simpa using w
 have S:ki h (d_ n len (bf z)) ((Array.range (len*n)).map λa=>v.cells[a%v.cells.size]!):=by
  refine⟨by simp[d_],λa m t A i=> ?_⟩;have B:a<len*n:=by
   rcases aqh a (len*n)with c|c
   ·exact c
   ·rw[aqT (by simpa using c)]at i;cases i
  have Ra:a%n<n:=ar5 _ p;have U:a%n<(bf z).length:=by omega
  simp[d_,B,w]at A;simp[B,R]at i;have V:a%n<v.cells.size:=by omega
  subst A;subst i;refine y.2 (a%n) _ _ ?_ ?_
  ·simp[aqi U]
  ·simp[V]
 obtain⟨C,q,E⟩:=pV S N O hf;have G:cs.length=len*n:=by
  have Y: ∀{k:List (Nat×M)} {f b:List M},fN (λa=>some (a*n,n)) f k=some b->b.length=f.length:=by
   intro k
   induction k with
   |nil=>intro f b c;simp[fN]at c;subst c;rfl
   |cons j k Z=>
    intro f b c;obtain⟨a,m⟩:=j;unfold fN at c;simp only at c;cases F:(Nat.beq (cellsOf m).length n&&m.iG)with
    |false=>simp[F]at c
    |true=>
     simp only[F,aqX]at c;split at c
     ·rename_i a1 l;rw[Z c];unfold dI at l;cases r:Nat.ble (a*n+(cellsOf m).length) f.length with
      |false=>simp[r]at l
      |true=>
       simp only[r,aqX,arv]at l;subst l;have:=aq5 r;simp;omega
     ·cases c
  rw[Y hf];simp[d_]
 obtain⟨h5,h6,h7⟩:=pd co G;have VI:C.size=len*n:=by rw[E.1,G]
 refine⟨.slice (some ⟨h.w.heap.size,0,none⟩) len len,{h.w with heap:=h.w.heap.push (.cells C e (0,0))},?_,fJ.alloc _ _,.m (.d (gd.Hr p x.hinv.BU h5 h6 VI (by have:=arE len p;omega) ?_))⟩
 ·have:(Array.map (λo:Nat×Operand=>match o with|(a,o)=>(a,f.eval o)) parts.toArray).toList=parts.map λj=>(j.1,f.eval j.2):=by simp
  have XJ: ¬(len*n>2^24):=by omega
  by_cases s:len*n=0
  ·have SR:len=0:=by
    rcases asi.1 s with c|c
    ·exact c
    ·omega
   subst SR;have QZ:((Array.range (0*n)).map λa=>v.cells[a%v.cells.size]!)= #[]:=by simp
   rw[QZ]at q;simp only[execOp,Instr.buildSlice,Sem.run_bind,underlying,program,Sem.run,ht.u,Sem.run_pure,Result.andThen_ok,c9 u.size,Sem.run_ite,s,arR,this];have e0:Array.range 0=(#[]:Array Nat):=by decide
   simp only[e0,asW];rw[q];simp[newRow,newObj,Sem.run]
  ·simp only[execOp,Instr.buildSlice,Sem.run_bind,underlying,program,Sem.run,ht.u,Sem.run_pure,Result.andThen_ok,c9 u.size,Sem.run_ite,XJ,arK,s,P,this];rw[q];simp[newRow,newObj,Sem.run]
 ·intro a H I d t hr hd i;have:=E.2 _ _ t (h7 a H I d hr hd) i;refine⟨?_,this.2⟩;cases this.1 with
  |d c=>exact c
end ops
def wr:List M->Nat->List M->Option (List M)
 |cs,0,[]=>some cs
 |_::cs,0,n::new=>match wr cs 0 new with
  |some r=>some (n::r)
  |none=>none
 |c::cs,off+1,new=>match wr cs off new with
  |some r=>some (c::r)
  |none=>none
 |_,_,_=>none
theorem rO: ∀{cs:List M} {off:Nat} {a MY:List M},wr cs off a=some MY->dI cs off a=some MY
 |cs,0,[],MY,b=>by
  simp[wr]at b;subst b;have:Nat.ble 0 cs.length=true:=arc (aqY _);simp[dI,this]
 |c::cs,0,k::a,MY,b=>by
  simp only[wr]at b;cases f:wr cs 0 a with
  |none=>simp[f]at b
  |some h=>
   simp[f]at b;subst b;have d:=rO f;unfold dI at d⊢;cases g:Nat.ble (0+a.length) cs.length with
   |false=>rw[g]at d;cases d
   |true=>
    have l:=aq5 g;have i:Nat.ble (0+(k::a).length) (c::cs).length=true:=arc (by simp;omega);simp only[g,aqX,arv]at d;simp only[i,aqX,arv];simp at d⊢;exact d
 |c::cs,off+1,a,MY,b=>by
  have j:(match wr cs off a with|some h=>some (c::h)|none=>none)=some MY:=by
   cases a<;>simpa [wr] using b
  cases f:wr cs off a with
  |none=>simp[f]at j
  |some h=>
   simp[f]at j;subst j;have d:=rO f;unfold dI at d⊢;cases g:Nat.ble (off+a.length) cs.length with
   |false=>simp[g]at d
   |true=>
    have l:=aq5 g;have i:Nat.ble (off+1+a.length) (c::cs).length=true:=arc (by simp;omega);simp only[g,aqX,arv]at d;simp only[i,aqX,arv];have e:off+1+a.length=(off+a.length)+1:=by omega
    rw[e,asa,List.drop_succ_cons,arl,arl,d]
 | [],0,_::_,MY,b=>by simp[wr]at b
 | [],_+1,a,MY,b=>by cases a<;>simp[wr]at b
def sub{α:Type} :List α->Nat->Nat->Option (List α)
 |_,0,0=>some []
 |c::cs,0,n+1=>match sub cs 0 n with
  |some r=>some (c::r)
  |none=>none
 |_::cs,off+1,n=>sub cs off n
 | [],_,_=>none
theorem sub_eq{e:Type} : ∀{cs:List e} {off n:Nat} {ds:List e},sub cs off n=some ds->off+n<=cs.length/\(cs.drop off).take n=ds
 |cs,0,0,ds,a=>by simp[sub]at a;subst a;simp
 |c::cs,0,n+1,ds,a=>by
  simp only[sub]at a;cases b:sub cs 0 n with
  |none=>simp[b]at a
  |some h=>
   simp[b]at a;subst a;obtain⟨f,d⟩:=sub_eq b;refine⟨by simp;omega,?_⟩;simp at d⊢;exact d
 |c::cs,off+1,n,ds,a=>by
  have g:sub cs off n=some ds:=by cases n<;>simpa [sub] using a
  obtain⟨f,d⟩:=sub_eq g;exact⟨by simp;omega,by grind⟩
 | [],0,n+1,ds,a=>by simp[sub]at a
 | [],off+1,n,ds,a=>by cases n<;>simp[sub]at a
def tf:List D->Option (List M)
 | []=>some []
 |d::r=>match tf r with
  |some ms=>some (.d d::ms)
  |none=>none
theorem pX: ∀{ds:List D} {ms:List M},tf ds=some ms->ms=ds.map .d
 | [],ms,a=>by simp[tf]at a;subst a;rfl
 |d::c,ms,a=>by
  simp only[tf]at a;cases b:tf c with
  |none=>simp[b]at a
  |some e=>simp[b]at a;subst a;simp[pX b]
def gR:M->Option (List M)
 | .d (.agg ds)=>tf ds
 | .agg cs=>some cs
 | .undef=>none
 | .cZ _=>none
 |m=>some [m]
theorem cP{m:M}{cs:List M}(h:gR m=some cs):cellsOf m=cs/\m.iG=true:=by
 unfold gR at h;split at h
 ·rename_i g;rw[pX h];exact⟨rfl,rfl⟩
 ·injection h with h;subst h;exact⟨rfl,rfl⟩
 ·cases h
 ·cases h
 ·rename_i b c e f;injection h with h;subst h
  cases m with
  |d a=>cases a<;>first|exact⟨rfl,rfl⟩|exact absurd W (b _)
  |undef=>exact absurd W e
  |cZ i=>exact absurd W (f _)
  |agg cs=>exact absurd W (c _)
  |_=>exact⟨rfl,rfl⟩
def tE(ps:List (Nat×Nat))(cs:List M):List (Nat×M)->Option (List M)
 | []=>some cs
 |(i,m)::r=>match ps[i]?,gR m with
  |some (off,size),some new=>bif Nat.beq new.length size then(match wr cs off new with
   |some MY=>tE ps MY r
   |none=>none)else none
  |_,_=>none
theorem sW{ps:List (Nat×Nat)} : ∀{parts:List (Nat×M)} {cs MY:List M},tE ps cs parts=some MY->fN (λi=>ps[i]?) cs parts=some MY
 | [],cs,MY,a=>by simpa [tE,fN] using a
 |(i,m)::k,cs,MY,a=>by
  simp only[tE]at a;split at a
  ·rename_i n j h c d;obtain⟨e,f⟩:=cP d;cases b:Nat.beq h.length j with
   |false=>simp[b]at a
   |true=>
    simp only[b,aqX]at a;split at a
    ·rename_i l g;simp only[fN,c,e,f,b,as4,aqX,rO g];exact sW a
    ·cases a
  ·cases a
def oD:Nat->List (Nat×M)->Option (List (List D))
 |_,[]=>some []
 |k,(i,.d d)::r=>bif Nat.beq i k then(match oD (k+1) r with
  |some rs=>some (bf d::rs)
  |none=>none)else none
 |_,_=>none
def gH(sl:List (Nat×V)):List (Nat×Operand)->Option (List (Nat×M))
 | []=>some []
 |(i,x)::r=>match bj sl x,gH sl r with
  |some (.m m),some ms=>some ((i,m)::ms)
  |_,_=>none
theorem hJ{sl:List (Nat×V)}{bx:List (Nat×List M)}{H:Hp} : ∀{ps:List (Nat×Operand)},dU ⟨sl,bx,H⟩ ps=gH sl ps
 | []=>rfl
 |(b,c)::a=>by simp only[dU,gH,hJ (ps:=a)];rfl
theorem xf{n:Nat}(j:0<n): ∀{ms:List (Nat×M)} {k:Nat} {rows:List (List D)} {pre Tv:List M},oD k ms=some rows->(∀r∈rows,r.length=n)->pre.length=k*n->Tv.length=ms.length*n->
  fN (λi=>some (i*n,n)) (pre++Tv) ms=some (pre++(rows.map λr=>r.map M.d).flatten)/\rows.length=ms.length
 | [],k,rows,pre,Tv,a,_,_,b=>by
  simp[oD]at a;subst a;simp at b;subst b;simp[fN]
 |(i,m)::r,k,rows,pre,Tv,a,h,e,b=>by
  cases m with
  |d d=>
   simp only[oD]at a;cases f:Nat.beq i k with
   |false=>simp[f]at a
   |true=>
    have:=aqr f;subst this;simp only[f,aqX]at a;split at a
    ·rename_i v g;injection a with a;subst a
     have l:(bf d).length=n:=h _ (by simp);have w:n<=Tv.length:=by rw[b];simp[arP]
     have c:(cellsOf (.d d)).length=n:=by simp[cellsOf,l]
     have o:dI (pre++Tv) (i*n) (cellsOf (.d d))=some ((pre++cellsOf (.d d))++Tv.drop n):=by
      unfold dI;rw[arc (by simp[c];omega)];have p:List.take (i*n) (pre++Tv)=pre:=by rw[<-e];simp
      have q:List.drop (i*n+n) (pre++Tv)=List.drop n Tv:=by
       rw[<-e,List.drop_append,asT (by omega)];simp
      simp only[aqX,c,p,q]
     obtain⟨s,t⟩:=xf j (k:=i+1) (pre:=pre++cellsOf (.d d)) (Tv:=Tv.drop n) g (λr g=>h r (by simp[g])) (by simp[e,c,arP]) (by simp[b,arP]);refine⟨?_,by simp[t]⟩;unfold fN;have u:Nat.beq (cellsOf (.d d)).length n=true:=by rw[c];exact asD n
     simp only[u,M.iG,as4,aqX,o];rw[s];simp[cellsOf]
    ·cases a
  |_=>simp[oD]at a
theorem rP{n:Nat} : ∀{rows:List (List D)},(∀r∈rows,r.length=n)->chunk n rows.length (rows.map λr=>r.map M.d).flatten=some rows
 | [],_=>rfl
 |r::a,d=>by
  have e:=d r (by simp);have h: ∀b:List D,j9 (b.map .d)=some b:=by
   intro b;induction b with
   |nil=>rfl
   |cons i b c=>simp[j9,c]
  have c:=rP (n:=n) (rows:=a) (λr e=>d r (by simp[e]));show chunk n (a.length+1) ((r.map M.d)++(a.map λr=>r.map M.d).flatten)=_;unfold chunk;have f:((r.map M.d)++(a.map λr=>r.map M.d).flatten).take n=r.map M.d:=by
   grind
  have g:((r.map M.d)++(a.map λr=>r.map M.d).flatten).drop n=(a.map λr=>r.map M.d).flatten:=by
   grind
  rw[f,g,h,c]
def lD(n:Nat):List (List D)->Bool
 | []=>true
 |r::rs=>Nat.beq r.length n&&lD n rs
theorem tF{n:Nat} : ∀{rows:List (List D)},lD n rows=true-> ∀r∈rows,r.length=n
 | [],_,r,a=>by cases a
 |c::d,b,r,a=>by
  simp only[lD,aqB]at b;cases a with
  |head=>exact aqr b.1
  |tail _ a=>exact tF b.2 r a
def gE(sl:List (Nat×V)):List Operand->Option (List D)
 | []=>some []
 |x::r=>match bj sl x,gE sl r with
  |some (.m (.d d)),some ds=>some (d::ds)
  |_,_=>none
def fG(sl:List (Nat×V)):List Operand->Option (List M)
 | []=>some []
 |x::r=>match bj sl x,fG sl r with
  |some (.m m),some ds=>some (m::ds)
  |_,_=>none
theorem rQ{sl:List (Nat×V)}{bx:List (Nat×List M)}{H:Hp} : ∀{ps:List Operand},(⟨sl,bx,H⟩:St).gE ps=gE sl ps
 | []=>rfl
 |b::a=>by simp only[St.gE,gE,rQ (ps:=a)];rfl
theorem mP{sl:List (Nat×V)}{bx:List (Nat×List M)}{H:Hp} : ∀{ps:List Operand},(⟨sl,bx,H⟩:St).fG ps=fG sl ps
 | []=>rfl
 |b::a=>by simp only[St.fG,fG,mP (ps:=a)];rfl
section rules
variable{X:bD}{ops:Array Oper}{rest:List Oper}{post:St->Prop}{sl:List (Nat×V)}{bx:List (Nat×List M)}{H:Hp}{d ty:Nat}{pos:String}{af:Array Edge}
theorem No{o:Oper}{v:V}{Na:List (Nat×V)}{Ns:List (Nat×List M)}{H':Hp}(a:o.guard=none)(b:o.dst=some d)(c:Nat.blt d X.n=true)(h:cE X o ⟨sl,bx,H⟩ (c_ v ⟨Na,Ns,H'⟩))
  (k:TL X ops rest ⟨(d,v)::Na,Ns,H'⟩ post):TL X ops (o::rest) ⟨sl,bx,H⟩ post:=
 TL.lA (by simp[jq,a]) b c h k
theorem aB{dst:Option Nat}{op:Op}{j:Nat}{w:Bool}(g:jq ops ⟨dst,op,ty,pos,af,some (j,w)⟩ ⟨sl,bx,H⟩=some true)
  (k:TL X ops (⟨dst,op,ty,pos,af,none⟩::rest) ⟨sl,bx,H⟩ post):TL X ops (⟨dst,op,ty,pos,af,some (j,w)⟩::rest) ⟨sl,bx,H⟩ post:=by
 rintro a h ⟨f,i,l,c⟩;have:=k a h ⟨f,i,l,c⟩;unfold wpList at this⊢;rw[aqy (c.wanted g)];rw[aqy (by simp[Region.wanted])]at this;have e: ∀b:Option (Nat×Bool),execOp a.eval ⟨dst,op,ty,pos,af,b⟩=execOp a.eval ⟨dst,op,ty,pos,af,none⟩:=by
  intro b;cases op<;>rfl
 rcases this with this|⟨d,m⟩
 ·left;unfold Oper.wp at this⊢;rw[e];exact this
 ·right;refine⟨?_,m⟩;unfold Oper.asks at d⊢;rw[e];exact d
theorem aE{op:Op}{j:Nat}{w:Bool}(a:jq ops ⟨some d,op,ty,pos,af,some (j,w)⟩ ⟨sl,bx,H⟩=some false)(b:Nat.blt d X.n=true)
  (k:TL X ops rest ⟨(d,.m (.cZ []))::sl,bx,H⟩ post):TL X ops (⟨some d,op,ty,pos,af,some (j,w)⟩::rest) ⟨sl,bx,H⟩ post:=
 TL.skip a W b k
theorem fZ{op:BinOp}{b c:Nat}{x y:Operand}{a:IntKind}{m n:Int}{r:D}(e:Nat.blt d X.n=true)(f:bj sl x=some (.m (.d (.int a m))))(g:bj sl y=some (.m (.d (.int a n))))
  (h:lB op a m n=some r) (k:TL X ops rest ⟨(d,.m (.d r))::sl,bx,H⟩ post):TL X ops (⟨some d,.binOp op b x y c,ty,pos,af,none⟩::rest) ⟨sl,bx,H⟩ post:=
 No W W e (ul f g h) k
theorem ax{a b:Nat}{x y:Operand}{m n:Int}(c:Nat.blt d X.n=true)(e:bj sl x=some (.m (.d (.int .i64 m))))(f:bj sl y=some (.m (.d (.int .i64 n))))
  (g: -9223372036854775808<=m+n/\m+n<=9223372036854775807) (k:TL X ops rest ⟨(d,.m (.d (.int .i64 (m+n))))::sl,bx,H⟩ post):TL X ops (⟨some d,.binOp .add a x y b,ty,pos,af,none⟩::rest) ⟨sl,bx,H⟩ post:=by
 refine fZ c e f (r:= .int .i64 (m+n)) ?_ k;have:IntKind.i64.wrap (m+n)=m+n:=IntWalk.i64_in _ g;simp[lB,this]
theorem cC{a b:Nat}{x y:Operand}{m n:Int}(c:Nat.blt d X.n=true)(e:bj sl x=some (.m (.d (.int .i64 m))))(f:bj sl y=some (.m (.d (.int .i64 n))))
  (g: -9223372036854775808<=m-n/\m-n<=9223372036854775807) (k:TL X ops rest ⟨(d,.m (.d (.int .i64 (m-n))))::sl,bx,H⟩ post):TL X ops (⟨some d,.binOp .sub a x y b,ty,pos,af,none⟩::rest) ⟨sl,bx,H⟩ post:=by
 refine fZ c e f (r:= .int .i64 (m-n)) ?_ k;have:IntKind.i64.wrap (m-n)=m-n:=IntWalk.i64_in _ g;simp[lB,this]
theorem Hs{b c:Nat}{x y:Operand}{a:IntKind}{m n:Int}(e:Nat.blt d X.n=true)(f:bj sl x=some (.m (.d (.int a m))))(g:bj sl y=some (.m (.d (.int a n))))
  (h:(n==0)=false) (k:TL X ops rest ⟨(d,.m (.d (.int a (a.wrap (m.tdiv n)))))::sl,bx,H⟩ post):TL X ops (⟨some d,.binOp .quo b x y c,ty,pos,af,none⟩::rest) ⟨sl,bx,H⟩ post:=
 No W W e (EO f g h) k
theorem oE{b c:Nat}{x y:Operand}{a:IntKind}{m n:Int}(e:Nat.blt d X.n=true)(f:bj sl x=some (.m (.d (.int a m))))(g:bj sl y=some (.m (.d (.int a n))))
  (h:(n==0)=false) (k:TL X ops rest ⟨(d,.m (.d (.int a (m.tmod n))))::sl,bx,H⟩ post):TL X ops (⟨some d,.binOp .rem b x y c,ty,pos,af,none⟩::rest) ⟨sl,bx,H⟩ post:=
 No W W e (EP f g h) k
theorem pY{x y:Operand}{a b:Nat}{s u:ByteArray}(c:Nat.blt d X.n=true)(e:bj sl x=some (.m (.d (.str s))))(f:bj sl y=some (.m (.d (.str u))))(g:s.size+u.size<=9223372036854775807)(k:TL X ops rest ⟨(d,.m (.d (.str (s++u))))::sl,bx,H⟩ post):
  TL X ops (⟨some d,.binOp .add a x y b,ty,pos,af,none⟩::rest) ⟨sl,bx,H⟩ post:=
 No W W c (w8 e f g) k
theorem zE{t:Nat}{x:Operand}{cs:List D}{off:Nat}{v:D}[ht:cj X.P t](a:Nat.blt d X.n=true)(b:bj sl x=some (.m (.d (.aZ cs off))))(c:cs[off]?=some v)(k:TL X ops rest ⟨(d,.m (.d v))::sl,bx,H⟩ post):
  TL X ops (⟨some d,.load t x,ty,pos,af,none⟩::rest) ⟨sl,bx,H⟩ post:=
 No W W a (wZ b c) k
theorem lV{T:Nat}{x:Operand}{t off:Nat}{cs:List M}{m:M}[ht:cj X.P T](a:Nat.blt d X.n=true)(b:bj sl x=some (.loc t off))(c:get bx t=some cs)(e:cs[off]?=some m)(k:TL X ops rest ⟨(d,.m m)::sl,bx,H⟩ post):
  TL X ops (⟨some d,.load T x,ty,pos,af,none⟩::rest) ⟨sl,bx,H⟩ post:=
 No W W a (tD b c e) k
theorem bH{t e:Nat}{x:Operand}{v:D}{n:Nat}[ht:aQ X.P t e](a:Nat.blt d X.n=true)(b:bj sl x=some (.m (.d v)))(c:oB v=some n)
  (k:TL X ops rest ⟨(d,.m (.d (.int .i64 n)))::sl,bx,H⟩ post):TL X ops (⟨some d,.call ⟨.builtin .len,#[x],#[t]⟩,ty,pos,af,none⟩::rest) ⟨sl,bx,H⟩ post:=
 No W W a (w6 b c) k
theorem aK{t e n:Nat}{x y:Operand}{rows:List (List D)}{r:List D}{a:IntKind}{i:Int}[ht:aQ X.P t e][l:bU X.P e n](b:Nat.blt d X.n=true)(c:bj sl x=some (.m (.d (.sl rows))))(f:bj sl y=some (.m (.d (.int a i))))
  (g:0<=i) (h:rows[i.toNat]?=some r) (j:r.length=n) (k:TL X ops rest ⟨(d,.m (.d (.aZ r 0)))::sl,bx,H⟩ post):TL X ops (⟨some d,.indexAddr t x y,ty,pos,af,none⟩::rest) ⟨sl,bx,H⟩ post:=
 No W W b (w7 c f g h j) k
theorem aJ{f:Nat}{args:List Operand}{O_:Array Nat}{ds:List D}{r:D}[hf:br X.P f](h:PT X.P f ds (·= [r]))(a:Nat.blt d X.n=true)(b:gE sl args=some ds)(k:TL X ops rest ⟨(d,.m (.d r))::sl,bx,H⟩ post):
  TL X ops (⟨some d,.call ⟨.value (.func f),args.toArray,O_⟩,ty,pos,af,none⟩::rest) ⟨sl,bx,H⟩ post:=
 No W W a (zA (by rw[rQ];exact b) h) k
theorem uv{x:Operand}{f:Nat}{a:List D}{args:List Operand}{O_:Array Nat}{ds:List D}{r:D}[hf:br X.P f](h:PT X.P f (ds++a) (·= [r]))(b:Nat.blt d X.n=true)(c:bj sl x=some (.m (.d (.fn f a))))(e:gE sl args=some ds)
  (k:TL X ops rest ⟨(d,.m (.d r))::sl,bx,H⟩ post):TL X ops (⟨some d,.call ⟨.value x,args.toArray,O_⟩,ty,pos,af,none⟩::rest) ⟨sl,bx,H⟩ post:=
 TL.op W W b (FT c (by rw[rQ];exact e) h) (by rintro v g ⟨i,rfl,rfl,rfl⟩;exact k)
theorem xg{f:Nat}{args:List Operand}{O_:Array Nat}{ms:List M}{q:M->Hp->Prop}[hf:br X.P f](h:CT X.P f ms H q)(c:Nat.blt d X.n=true)(e:fG sl args=some ms)
  (k: ∀a b,q a b->TL X ops rest ⟨(d,.m a)::sl,bx,b⟩ post):
  TL X ops (⟨some d,.call ⟨.value (.func f),args.toArray,O_⟩,ty,pos,af,none⟩::rest) ⟨sl,bx,H⟩ post:=
 TL.op W W c (vj (by rw[mP];exact e) h) (by grind)
theorem jT{T:Nat}{parts:List (Nat×Operand)}{ps:List (Nat×Nat)}{z:List D}{a:List M}{ms:List (Nat×M)}{cs:List M}[ht:jS X.P T ps z](c:Nat.blt d X.n=true)(e:gH sl parts=some ms)(f:tf z=some a)
  (hf:tE ps a ms=some cs) (h:j9 cs=none) (k:TL X ops rest ⟨(d,.m (.agg cs))::sl,bx,H⟩ post):TL X ops (⟨some d,.build T parts.toArray,ty,pos,af,none⟩::rest) ⟨sl,bx,H⟩ post:=by
 have b:=vk (X:=X) (dst:=some d) (ty:=ty) (pos:=pos) (af:=af) (g:=none) (st:=⟨sl,bx,H⟩) (T:=T) (by rw[hJ];exact e) (by rw[<-pX f];exact sW hf);have:pack cs= .agg cs:=by simp[pack,h]
 rw[this]at b;exact No W W c b k
theorem uw{st:St}{dst:Option Nat}{g:Option (Nat×Bool)}{T e n len:Nat}{parts:List (Nat×Operand)}{z:D}{ms:List (Nat×M)}{rows:List (List D)}[ht:aQ X.P T e][w:bU X.P e n][x:gg X.P e z](b:Nat.blt 0 n=true)(p:Nat.beq (bf z).length n=true)
  (s:Nat.ble (len*n) 16777216=true) (q:dU st parts=some ms) (c:oD 0 ms=some rows) (u:Nat.beq rows.length len=true) (r:lD n rows=true):
  cE X ⟨dst,.buildSlice T len parts.toArray,ty,pos,af,g⟩ st (c_ (.m (.d (.sl rows))) st):=by
 have f:=aqr u;have h:=tF r;have t:rows.length=ms.length:=by
  have: ∀{ms:List (Nat×M)} {k:Nat} {rows:List (List D)},oD k ms=some rows->rows.length=ms.length:=by
   intro ms
   induction ms with
   |nil=>intro k rows a;simp[oD]at a;subst a;rfl
   |cons l v y=>
    intro k rows a;obtain⟨o,m⟩:=l;cases m with
    |d d=>
     simp only[oD]at a;cases i:Nat.beq o k with
     |false=>simp[i]at a
     |true=>
      simp only[i,aqX]at a;split at a
      ·grind
      ·cases a
    |_=>simp[oD]at a
  exact this c
 obtain⟨j,A⟩:=xf (bL b) (k:=0) (pre:=[]) (Tv:=d_ n len (bf z)) c h (by simp) (by simp[d_];rw[<-f,t]);simp only[aqK]at j;exact xe b (aqr p) s q j (by rw[<-f];exact rP h)
class xh(P:Program)(t:Nat)(cs:outParam (List M)):Prop where
 h: ∃z,wH P t z/\(bf z).map .d=cs
theorem BZ{T:Nat}{cs:List M}[i:xh X.P T cs](j:Nat.blt d X.n=true)(l:gI d sl=true)(k:TL X ops rest ⟨(d,.loc d 0)::sl,(d,cs)::bx,H⟩ post):
  TL X ops (⟨some d,.alloc T,ty,pos,af,none⟩::rest) ⟨sl,bx,H⟩ post:=by
 obtain⟨o,r,n⟩:=i.h;subst n;have f:=zD (X:=X) (st:=⟨sl,bx,H⟩) (d:=d) (T:=T) (ty:=ty) (pos:=pos) (af:=af) (g:=none);have e:cO d sl=sl:=by
  have: ∀b:List (Nat×V),gI d b=true->cO d b=b:=by
   intro b
   induction b with
   |nil=>intro _;rfl
   |cons h b c=>
    obtain⟨k,v⟩:=h;cases v with
    |m m=>intro a;simp only[gI]at a;simp[cO,c a]
    |tl s t u w=>intro a;simp only[gI]at a;simp[cO,c a]
    |loc p q=>intro a;simp only[gI,aqB,arn]at a;simp[cO,a.1,c a.2]
  exact this sl l
 simp only[e]at f;exact No W W j f k
theorem AX{T:Nat}{x:Operand}{m:M}{cs:List M}(h:Nat.blt d X.n=true)(i:gI d sl=true)(j:bj sl x=some (.m m))(l:gR m=some cs)(k:TL X ops rest ⟨(d,.loc d 0)::sl,(d,cs)::bx,H⟩ post):
  TL X ops (⟨some d,.box T x,ty,pos,af,none⟩::rest) ⟨sl,bx,H⟩ post:=by
 obtain⟨n,o⟩:=cP l;have f:=Hq (X:=X) (st:=⟨sl,bx,H⟩) (d:=d) (T:=T) (ty:=ty) (pos:=pos) (af:=af) (g:=none) j o;have e:cO d sl=sl:=by
  have: ∀b:List (Nat×V),gI d b=true->cO d b=b:=by
   intro b
   induction b with
   |nil=>intro _;rfl
   |cons x b c=>
    obtain⟨k,v⟩:=x;cases v with
    |m m=>intro a;simp only[gI]at a;simp[cO,c a]
    |tl r s t u=>intro a;simp only[gI]at a;simp[cO,c a]
    |loc p q=>intro a;simp only[gI,aqB,arn]at a;simp[cO,a.1,c a.2]
  exact this sl i
 simp only[e,n]at f;exact No W W h f k
theorem ff{T n:Nat}{x y:Operand}{t off:Nat}{cs a MY:List M}{m:M}[j:bU X.P T n](b:bj sl x=some (.loc t off))(c:bj sl y=some (.m m))(d:get bx t=some cs)(e:gR m=some a)
  (f:Nat.beq a.length n=true) (g:wr cs off a=some MY) (k:TL X ops rest ⟨sl,(t,MY)::bx,H⟩ post):TL X ops (⟨none,.store T x y,ty,pos,af,none⟩::rest) ⟨sl,bx,H⟩ post:=by
 obtain⟨h,i⟩:=cP e;subst h;exact TL.EN W W (xb b c d (aqr f) i (rO g)) k
theorem Inv.nK{Na:List (Nat×V)}{Ns:List (Nat×List M)}{a:Act}{w:World}(h:Inv X ⟨sl,bx,H⟩ a w)(o: ∀c v,get Na c=some v->get sl c=some v)
  (p: ∀c,get Ns c=get bx c):Inv X ⟨Na,Ns,H⟩ a w:=by
 obtain⟨l,i,j,d⟩:=h;refine⟨l,i,j,d.hH,d.defers,d.size,λc v h=>d.slot c v (o c v h),λc g h=>d.box c g (by grind),λc m g q h t=>d.rm c m g q (by grind) (by grind),
  λc g h=>d.rI c g (by grind),λc g h=>d.rJ c g (by grind),?_,d.mono,d.cp⟩
 have e: ∀b f,nP X.jF i Ns b f↔nP X.jF i bx b f:=by intro b f;simp[nP,p]
 exact⟨d.hinv.obj,d.hinv.inj,λb f=>by rw[e];exact d.hinv.own b f,λn r j s f k=>d.hinv.sep n r j s f ((e _ _).1 k),λb f k=>d.hinv.lU b f ((e _ _).1 k)⟩
def keeps(sl Na:List (Nat×V)):Prop:=(Na.map λp=>get sl p.1)=Na.map λp=>some p.2
theorem kc{sl r:List (Nat×V)}{t:Nat}{v:V}(h:get sl t=some v)(k:keeps sl r):keeps sl ((t,v)::r):=by
 show get sl t::_=some v::_;rw[h];exact arI _ k
theorem gJ{sl:List (Nat×V)} : ∀{Na:List (Nat×V)},keeps sl Na-> ∀t v,get Na t=some v->get sl t=some v
 | [],_,t,v,a=>by simp[get]at a
 |(f,g)::h,b,t,v,a=>by
  injection b with c d
  rcases bM a with⟨rfl,rfl⟩|⟨i,e⟩
  ·exact c
  ·exact gJ d t v e
end rules
theorem TC.nK{X:bD}{c:Code}{sl Na:List (Nat×V)}{bx:List (Nat×List M)}{H:Hp}{post:Exit->St->Prop}(h:TC X c ⟨Na,bx,H⟩ post)(d:keeps sl Na):TC X c ⟨sl,bx,H⟩ post:=
 λa b e=>h a b (e.nK (gJ d) (λ_=>rfl))
theorem TC.Ht{X:bD}{c:Code}{st:St}{post:Exit->St->Prop}(g:Nat->St->Prop)(l:Nat)(j:St)(m:g l j)(n: ∀a b,Inv X st a b->Inv X j a b)
  (u: ∀f d,g f d->TC X c d (after post λk=> ∃h i,h<f/\g h i/\ ∀a b,Inv X k a b->Inv X i a b)):TC X (.loop c) st post:=by
 intro a b o;refine wp_loop_ghost (λf a b=> ∃d,g f d/\Inv X d a b) l ⟨j,m,(n a b o)⟩ ?_;rintro f a b ⟨d,p,q⟩;refine wp_mono (u f d p a b q) ?_;intro e v w ⟨k,h3,h4⟩;cases e with
 |normal=>obtain⟨h,i,r,s,t⟩:=h3;exact⟨h,r,i,s,t _ _ h4⟩
 |_=>exact⟨k,h3,h4⟩
structure Ef where
 d:Option Nat
 v:V
 rb:List Nat
 wb:List (Nat×List M)
 nw:Option Nat
 rh:Bool
 wh:Option Hp
def Ef.app(e:Ef)(st:St):St:=
 ⟨match e.d with|some d=>(d,e.v)::st.sl|none=>st.sl,e.wb++st.bx,match e.wh with|some h=>h|none=>st.H⟩
def Hu(X:bD)(ops:Array Oper)(o:Oper)(st MJ:St):Prop:=
 ∀a w,Inv X st a w-> ∀(K:Act->World->Prop) (Q:Exit->Act->World->Prop),(∀a' w',Inv X MJ a' w'->K a' w')->
  if Region.wanted o (yielded ops a.tmps)then o.wp X.P a w K Q else K (a.put o.dst undef) w
structure Ag(ops:Array Oper)(o:Oper)(e:Ef)(st MR:St):Prop where
 sl: ∀t∈o.looksAt ops,get MR.sl t=get st.sl t
 bx: ∀t∈e.rb++e.wb.map (·.1),get MR.bx t=get st.bx t
 H:(e.rh||e.wh.isSome)=true->MR.H=st.H
 nw: ∀d,e.nw=some d-> ∀t o,get MR.sl t≠some (.loc d o)
def kT(X:bD)(ops:Array Oper)(o:Oper)(e:Ef)(st:St):Prop:= ∀MR,Ag ops o e st MR->Hu X ops o MR (e.app MR)
inductive pf(X:bD)(ops:Array Oper):List Oper->St->List Ef->St->Prop where
 |nil (st:St):pf X ops [] st [] st
 |cons {o:Oper} {os:List Oper} {st MJ:St} {e:Ef} {es:List Ef} (h:kT X ops o e st) (hd:e.d=o.dst) (k:pf X ops os (e.app st) es MJ):pf X ops (o::os) st (e::es) MJ
def TF(X:bD)(ops:Array Oper)(l:List Oper)(st:St)(post:List Ef->St->Prop):Prop:= ∃es MJ,pf X ops l st es MJ/\post es MJ
theorem TF.nil{X:bD}{ops:Array Oper}{st:St}{post:List Ef->St->Prop}(h:post [] st):TF X ops [] st post:=⟨[],st,.nil st,h⟩
theorem TF.cons{X:bD}{ops:Array Oper}{o:Oper}{rest:List Oper}{st:St}{e:Ef}{post:List Ef->St->Prop}(h:kT X ops o e st)(c:e.d=o.dst)
  (k:TF X ops rest (e.app st) λa b=>post (e::a) b):TF X ops (o::rest) st post:=by
 obtain⟨a,d,f,g⟩:=k;exact⟨e::a,d,.cons h c f,g⟩
def ja(ops:List Oper):List (List Nat):=
 ops.foldl (λacc o=>acc++ [(o.after.toList.filter (Region.binds .any)).flatMap λe=>e.on::acc.getD e.on []]) []
def has(l:List Nat)(i:Nat):Bool:=l.any λx=>Nat.beq x i
def slotsOf(ops:Array Oper)(o:Oper):List Nat:=o.looksAt ops++o.dst.toList
def dw(ops:Array Oper)(x y:Oper)(e f:Ef):Bool:=
 (match x.dst with|some d=>has (slotsOf ops y) d|none=>false)||(match y.dst with|some d=>has (slotsOf ops x) d|none=>false)||
 (e.wb.any λp=>has (f.rb++f.wb.map (·.1)) p.1)||(f.wb.any λp=>has (e.rb++e.wb.map (·.1)) p.1)||
 (e.wh.isSome&&(f.rh||f.wh.isSome))||(f.wh.isSome&&e.rh)||
 (match e.nw,f.v with|some d,.loc u _=>Nat.beq u d|_,_=>false)
def qy(e f:Ef):Bool:=match f.nw,e.v with
 |some d,.loc u _=>Nat.beq u d
 |_,_=>false
def rR:Nat->List Oper->Bool
 |_,[]=>true
 |j,o::r=>(o.after.toList.all λe=> !Region.binds .any e||Nat.blt e.on j)&&rR (j+1) r
def gY(ops:Array Oper)(x:Oper)(e:Ef)(i:Nat):List Oper->List Ef->List (List Nat)->Bool
 |y::ys,f::fs,b::bs=>(!dw ops x y e f||has b i)&& !qy e f&&gY ops x e i ys fs bs
 |_,_,_=>true
def jb(ops:Array Oper):Nat->List Oper->List Ef->List (List Nat)->Bool
 |i,x::xs,e::es,b::bs=>gY ops x e i xs es bs&&jb ops (i+1) xs es bs
 |_,_,_,_=>true
def jc(sl:List (Nat×V)):List Ef->Bool
 | []=>true
 |e::es=>(match e.nw with|some d=>gI d sl|none=>true)&&jc sl es
def gj(ops:List Oper)(sl:List (Nat×V))(es:List Ef):Bool:=
 rR 0 ops&&jb ops.toArray 0 ops es (ja ops)&&jc sl es
theorem fw{l:List Nat}{i:Nat} :has l i=true↔i∈l:=by
 unfold has;rw[ar7];constructor
 ·rintro⟨d,b,c⟩;rw[<-aqr c];exact b
 ·intro a;exact⟨i,a,asD i⟩
def S(st:St)(es:List Ef)(MH:Nat->Bool):Nat->St
 |0=>st
 |k+1=>match es[k]? with
  |some e=>bif MH k then e.app (S st es MH k)else S st es MH k
  |none=>S st es MH k
structure Part(α:Type)(es:List Ef)where
 r:St->α
 W:Nat->Bool
 c:Nat->α
 cB: ∀k e s,es[k]?=some e->W k=false->r (e.app s)=r s
 write: ∀k e s,es[k]?=some e->W k=true->r (e.app s)=c k
section parts
variable{α:Type}{es:List Ef}(p:Part α es){st:St}
theorem lW(L a:Nat->Bool): ∀n,(∀k,k<n->p.W k=true->L k=a k)->p.r (S st es L n)=p.r (S st es a n)
 |0,_=>rfl
 |n+1,f=>by
  have d:=lW L a n (λk h=>f k (by omega));simp only[S];cases c:es[n]? with
  |none=>exact d
  |some e=>
   simp only;cases b:p.W n with
   |false=>
    cases i:L n<;>cases g:a n<;>simp only[aqX,arS]<;>(try rw[p.cB n e _ c b])<;>(try rw[p.cB n e _ c b])<;>exact d
   |true=>
    have:=f n (by omega) b;rw[this];cases g:a n<;>simp only[aqX,arS]
    ·exact d
    ·rw[p.write n e _ c b,p.write n e _ c b]
theorem qz(L:Nat->Bool)(i:Nat): ∀n,i<=n->(∀k,i<=k->k<n->p.W k=true->L k=false)->p.r (S st es L n)=p.r (S st es L i)
 |0,f,_=>by
  have:i=0:=by omega
  subst this;rfl
 |n+1,f,b=>by
  by_cases e:i=n+1
  ·subst e;rfl
  ·have a:=qz L i n (by omega) (λk g j=>b k g (by omega));simp only[S];cases h:es[n]? with
   |none=>exact a
   |some e=>
    simp only;cases c:L n with
    |false=>exact a
    |true=>
     simp only[aqX];cases d:p.W n with
     |false=>rw[p.cB n e _ h d];exact a
     |true=>rw[b n (by omega) (by omega) d]at c;cases c
theorem lE(L:Nat->Bool)(i m:Nat)(hi:i<=m)(b: ∀a,a<i->p.W a=true->L a=true)(c: ∀a,i<=a->a<m->p.W a=true->L a=false):
  p.r (S st es L m)=p.r (S st es (λ_=>true) i):=
 (qz p L i m hi c).trans (lW p L _ i λa d e=>b a d e)
theorem rS(L:Nat->Bool)(i m:Nat)(hi:i<m)(e:Ef)(b:es[i]?=some e)(h:L i=false)(d:p.W i=true-> ∀k,i<k->k<m->p.W k=true->L k=false):
  p.r (S st es (λk=>if k=i then true else L k) m)=p.r (e.app (S st es L m)):=by
 cases a:p.W i with
 |true=>
  rw[p.write i e _ b a];have:=qz p (st:=st) (λk=>if k=i then true else L k) (i+1) m (by omega) (λk j f g=>by
   have:k≠i:=by omega
   simp[this];exact d a k (by omega) f g)
  rw[this];simp only[S,b,arR,aqX];exact p.write i e _ b a
 |false=>
  rw[p.cB i e _ b a];exact lW p _ _ m λk l c=>by
   have:k≠i:=by rintro rfl;rw[a]at c;cases c
   simp[this]
end parts
def jU(es:List Ef)(t:Nat):Part (Option V) es where
 r s:=get s.sl t
 W k:=match es[k]? with
  |some e=>match e.d with|some d=>Nat.beq d t|none=>false
  |none=>false
 c k:=match es[k]? with|some e=>some e.v|none=>none
 cB k e s he hw:=by
  simp only[he]at hw;unfold Ef.app;cases hd:e.d with
  |none=>rfl
  |some d=>
   simp only[hd]at hw;have:d≠t:=by rintro rfl;simp at hw
   simp[bJ,this]
 write k e s he hw:=by
  simp only[he]at hw⊢;unfold Ef.app;cases hd:e.d with
  |none=>simp[hd]at hw
  |some d=>
   simp only[hd]at hw;have:=aqr hw;subst this;simp[bJ]
theorem get_append{a:Type}(l r:List (Nat×a))(t:Nat):get (l++r) t=match get l t with|some v=>some v|none=>get r t:=by
 induction l with
 |nil=>rfl
 |cons b l d=>
  obtain⟨c,v⟩:=b;rw[arl,bJ,bJ];by_cases e:c=t
  ·simp[e]
  ·simp[e,d]
theorem jk{b:Type}(l:List (Nat×b))(t:Nat):(get l t).isSome=has (l.map (·.1)) t:=by
 induction l with
 |nil=>rfl
 |cons c l f=>
  obtain⟨a,v⟩:=c;rw[bJ];by_cases e:a=t
  ·subst e;simp[has]
  ·have:Nat.beq a t=false:=by rw[<-arp];intro d;exact e (aqr d)
   simp only[e,arK,f,has,aqN,List.any_cons,this,Bool.false_or]
def lF(es:List Ef)(t:Nat):Part (Option (List M)) es where
 r s:=get s.bx t
 W k:=match es[k]? with
  |some e=>has (e.wb.map (·.1)) t
  |none=>false
 c k:=match es[k]? with|some e=>get e.wb t|none=>none
 cB k e s he hw:=by
  simp only[he]at hw;have h:=jk e.wb t;rw[hw]at h;show get (e.wb++s.bx) t=_;rw[get_append];cases hg:get e.wb t with
  |none=>rfl
  |some v=>rw[hg]at h;cases h
 write k e s he hw:=by
  simp only[he]at hw⊢;have h:=jk e.wb t;rw[hw]at h;show get (e.wb++s.bx) t=_;rw[get_append];cases hg:get e.wb t with
  |none=>rw[hg]at h;cases h
  |some v=>rfl
def sX(es:List Ef):Part Hp es where
 r s:=s.H
 W k:=match es[k]? with
  |some e=>e.wh.isSome
  |none=>false
 c k:=match es[k]? with|some e=>(match e.wh with|some h=>h|none=>[])|none=>[]
 cB k e s he hw:=by
  simp only[he]at hw;unfold Ef.app;cases hh:e.wh with
  |none=>rfl
  |some h=>rw[hh]at hw;cases hw
 write k e s he hw:=by
  simp only[he]at hw⊢;unfold Ef.app;cases hh:e.wh with
  |none=>rw[hh]at hw;cases hw
  |some h=>rfl
theorem nQ: ∀(ops:List Oper),(ja ops).length=ops.length:=by
 have: ∀(ops:List Oper) (a:List (List Nat)),(ops.foldl (λa b=>a++ [(b.after.toList.filter (Region.binds .any)).flatMap λe=>e.on::a.getD e.on []]) a).length=a.length+ops.length:=by
  intro ops
  induction ops with
  |nil=>intro a;simp
  |cons b ops c=>intro a;rw[ars,c];simp;omega
 intro ops;unfold ja;rw[this];simp
theorem zG{ops:List Oper}{j i:Nat}{o:Oper}{b:List Nat}(q:ops[j]?=some o)(f:(ja ops)[j]?=some b)(hi:i∈b):
  ∃e∈o.after.toList,Region.binds .any e=true/\(e.on=i\/ ∃b',(ja ops)[e.on]?=some b'/\e.on<j/\i∈b'):=by
 have t: ∀(ops:List Oper) (a:List (List Nat)) (j:Nat) (o:Oper) (b:List Nat),ops[j]?=some o->
   (ops.foldl (λa o=>a++ [(o.after.toList.filter (Region.binds .any)).flatMap λe=>e.on::a.getD e.on []]) a)[a.length+j]?=some b->
   ∃g:List (List Nat),g.length=a.length+j/\(∀c,c<a.length+j->g[c]?=(ops.foldl (λa o=>a++ [(o.after.toList.filter (Region.binds .any)).flatMap λe=>e.on::a.getD e.on []]) a)[c]?)/\
    b=(o.after.toList.filter (Region.binds .any)).flatMap λe=>e.on::g.getD e.on []:=by
  have pre: ∀(ops:List Oper) (a:List (List Nat)) (c:Nat),c<a.length->
    (ops.foldl (λa o=>a++ [(o.after.toList.filter (Region.binds .any)).flatMap λe=>e.on::a.getD e.on []]) a)[c]?=a[c]?:=by
   intro ops
   induction ops with
   |nil=>intro a c _;rfl
   |cons o ops h=>
    intro a c l;rw[ars,h _ c (by simp;omega),aqf l]
  intro ops
  induction ops with
  |nil=>intro a j o b d;simp at d
  |cons p ops h=>
   intro a j o b d f;cases j with
   |zero=>
    simp at d;subst d;rw[ars,pre _ _ _ (by simp)]at f;simp at f;refine⟨a,by simp,?_,f.symm⟩;intro c l;rw[ars,pre _ _ _ (by simp;omega),aqf (by omega)]
   |succ j=>
    rw[ars]at f⊢;have e:a.length+(j+1)=(a++ [(p.after.toList.filter (Region.binds .any)).flatMap λe=>e.on::a.getD e.on []]).length+j:=by simp;omega
    rw[e]at f⊢;exact h _ j o b (by simpa using d) f
 obtain⟨g,m,r,s⟩:=t ops [] j o b q (by simpa [ja] using f);subst s;rw[List.mem_flatMap]at hi;obtain⟨e,k,hi⟩:=hi;rw[asj]at k;refine⟨e,k.1,k.2,?_⟩;simp only[aqs]at hi;rcases hi with hi|hi
 ·exact .inl hi.symm
 ·right;have n:e.on<g.length:=by
   rcases aqh e.on g.length with d|d
   ·exact d
   ·simp[aqj d]at hi
  have:g[e.on]?=(ja ops)[e.on]?:=by
   have:=r e.on (by simp at m⊢;omega);simpa [ja] using this
  refine⟨g[e.on],by rw[<-this];simp[n],by simp at m;omega,?_⟩;simpa [List.getD,n] using hi
theorem jH{n:Array Oper}{x:Oper}{e:Ef}{i:Nat} : ∀{h:List Oper} {k:List Ef} {l:List (List Nat)},gY n x e i h k l=true->
  ∀(j:Nat) y f b,h[j]?=some y->k[j]?=some f->l[j]?=some b->(dw n x y e f=true->i∈b)/\qy e f=false
 | [],_,_,_,j,y,f,b,a,_,_=>by simp at a
 |_::_,[],_,_,j,y,f,b,_,c,_=>by simp at c
 |_::_,_::_,[],_,j,y,f,b,_,_,d=>by simp at d
 |p::h,q::k,r::l,g,j,y,f,b,a,c,d=>by
  simp only[gY,aqB,ar2,arn]at g;cases j with
  |zero=>
   simp at a c d;subst a;subst c;subst d;refine⟨λo=> ?_,g.1.2⟩;rcases g.1.1 with m|m
   ·rw[m]at o;cases o
   ·exact fw.1 m
  |succ j=>simp at a c d;exact jH g.2 j y f b a c d
theorem kA{m:Array Oper} : ∀{xs:List Oper} {es:List Ef} {l:List (List Nat)} {n:Nat},jb m n xs es l=true->
  ∀(i j:Nat) x e y f b,i<j->xs[i]?=some x->es[i]?=some e->xs[j]?=some y->es[j]?=some f->l[j]?=some b->(dw m x y e f=true->n+i∈b)/\qy e f=false
 | [],_,_,n,_,i,j,x,e,y,f,b,_,a,_,_,_,_=>by simp at a
 |_::_,[],_,n,_,i,j,x,e,y,f,b,_,_,c,_,_,_=>by simp at c
 |_::_,_::_,[],n,_,i,j,x,e,y,f,b,_,_,_,_,_,d=>by simp at d
 |o::xs,p::es,q::l,n,k,i,j,x,e,y,f,b,r,a,c,g,h,d=>by
  simp only[jb,aqB]at k;cases j with
  |zero=>omega
  |succ j=>
   cases i with
   |zero=>
    simp at a c g h d;subst a;subst c;exact jH k.1 j y f b g h d
   |succ i=>
    simp at a c g h d;have:=kA k.2 i j x e y f b (by omega) a c g h d;rw[show n+(i+1)=n+1+i by omega];exact this
theorem pG: ∀{ops:List Oper} {n:Nat},rR n ops=true-> ∀(j:Nat) o,ops[j]?=some o-> ∀e∈o.after.toList,Region.binds .any e=true->e.on<n+j
 | [],n,_,j,o,a,_,_,_=>by simp at a
 |g::h,n,b,j,o,a,e,f,c=>by
  simp only[rR,aqB,arz,ar2,arn]at b;cases j with
  |zero=>
   simp at a;subst a;rcases b.1 e f with d|d
   ·rw[d]at c;cases c
   ·have:=bL d;omega
  |succ j=>simp at a;have:=pG b.2 j o a e f c;omega
theorem fH(st:St)(es:List Ef): ∀k,S st es (λ_=>true) k=(es.take k).foldl (λs e=>e.app s) st
 |0=>rfl
 |k+1=>by
  simp only[S];cases b:es[k]? with
  |none=>
   have d:es.length<=k:=by rcases aqh k es.length with a|a;simp[aqi a]at b;exact a
   rw[fH st es k,arj d,arj (by omega)]
  |some e=>
   simp only[aqX];rw[fH st es k];have c:k<es.length:=by rcases aqh k es.length with a|a;exact a;simp[aqj a]at b
   rw[aqu c,asK];have:es[k]=e:=by simpa [aqi c] using b
   rw[this];rfl
def o_:Nat->(Nat->Bool)->Nat
 |0,_=>0
 |k+1,f=>o_ k f+(bif f k then 0 else 1)
theorem xi: ∀{m:Nat} {f g:Nat->Bool},(∀k,k<m->f k=g k)->o_ m f=o_ m g
 |0,_,_,_=>rfl
 |m+1,f,g,a=>by simp only[o_];rw[xi (λk b=>a k (by omega)),a m (by omega)]
theorem sY: ∀{m:Nat} {f:Nat->Bool},o_ m f=0-> ∀k,k<m->f k=true
 |0,f,_,k,c=>by omega
 |m+1,f,a,k,c=>by
  simp only[o_]at a;cases b:f m with
  |false=>simp[b]at a
  |true=>
   simp[b]at a;by_cases e:k=m
   ·rw[e];exact b
   ·exact sY a k (by omega)
theorem xj: ∀{m:Nat} {f:Nat->Bool},0<o_ m f-> ∃i,i<m/\f i=false/\ ∀k,k<i->f k=true
 |0,f,a=>by simp[o_]at a
 |m+1,f,a=>by
  by_cases d:0<o_ m f
  ·obtain⟨i,b,e,g⟩:=xj d;exact⟨i,by omega,e,g⟩
  ·have b:o_ m f=0:=by omega
   simp only[o_,b]at a;cases c:f m with
   |false=>exact⟨m,by omega,c,sY b⟩
   |true=>simp[c]at a
theorem xk: ∀{m:Nat} {f:Nat->Bool} {i:Nat},i<m->f i=false->o_ m (λk=>if k=i then true else f k)+1=o_ m f
 |0,f,i,b,_=>by omega
 |m+1,f,i,b,a=>by
  simp only[o_];by_cases e:i=m
  ·subst e;have:o_ i (λk=>if k=i then true else f k)=o_ i f:=xi λk d=>by simp[show k≠i by omega]
   simp only[this,arR,a,aqX,arS,arV]
  ·have:=xk (m:=m) (f:=f) (i:=i) (by omega) a;have c:m≠i:=by omega
   simp only[c,arK];omega
def AY(X:bD)(I:Hp->Prop)(ops:Array Oper)(o:Oper)(e:Ef)(st:St):Prop:= ∀MR,Ag ops o e st MR->I MR.H->Hu X ops o MR (e.app MR)
inductive tG(X:bD)(I:Hp->Prop)(ops:Array Oper):List Oper->St->List Ef->St->Prop where
 |nil (st:St):tG X I ops [] st [] st
 |cons {o:Oper} {os:List Oper} {st MJ:St} {e:Ef} {es:List Ef} (h:AY X I ops o e st) (hd:e.d=o.dst) (k:tG X I ops os (e.app st) es MJ):tG X I ops (o::os) st (e::es) MJ
def iT(X:bD)(I:Hp->Prop)(ops:Array Oper)(l:List Oper)(st:St)(post:List Ef->St->Prop):Prop:= ∃es MJ,tG X I ops l st es MJ/\post es MJ
theorem tG.spec{X:bD}{c:Hp->Prop}{d:Array Oper}{l:List Oper}{st f:St}{es:List Ef}(h:tG X c d l st es f):
  es.length=l.length/\f=es.foldl (λs e=>e.app s) st/\ ∀(i:Nat) o e,l[i]?=some o->es[i]?=some e->AY X c d o e ((es.take i).foldl (λs e=>e.app s) st)/\e.d=o.dst:=by
 induction h with
 |nil st=>exact⟨rfl,rfl,by simp⟩
 |cons h g p j=>
  obtain⟨k,m,n⟩:=j;refine⟨by simp[k],m,λi o e a b=> ?_⟩;cases i with
  |zero=>simp at a b;subst a;subst b;exact⟨h,g⟩
  |succ i=>simp at a b;exact n i o e a b
def ux(ops:List Oper)(k:Nat):Bool:=match(ja ops)[k]? with
 |some b=>(List.range ops.length).all λi=>Nat.beq i k||has b i
 |none=>false
theorem B0{ops:List Oper}{k:Nat}(h:ux ops k=true)(i:Nat)(hi:i<ops.length)(c:i≠k): ∃b,(ja ops)[k]?=some b/\i∈b:=by
 unfold ux at h;split at h
 ·rename_i b d;rw[arz]at h;have:=h i (arU.2 hi);rw[ar2]at this;rcases this with a|a
  ·exact absurd (aqr a) c
  ·exact⟨b,d,fw.1 a⟩
 ·cases h
def mG(I:Hp->Prop)(ops:List Oper):Nat->List Ef->Prop
 |_,[]=>True
 |k,e::r=>(match e.wh with|none=>True|some h=>I h\/ux ops k=true)/\mG I ops (k+1) r
theorem mG.Kd{b:Hp->Prop}{ops:List Oper} : ∀{es:List Ef} {n:Nat},mG b ops n es-> ∀(k:Nat) f,es[k]?=some f-> ∀h,f.wh=some h->b h\/ux ops (n+k)=true
 | [],_,_,k,f,a,_,_=>by simp at a
 |g::i,n,⟨c,e⟩,k,f,a,h,d=>by
  cases k with
  |zero=>simp at a;subst a;rw[d]at c;exact c
  |succ k=>
   simp at a;have:=e.Kd k f a h d
   rwa [show n+1+k=n+(k+1) by omega]at this
theorem mG.mem{a:Hp->Prop}{ops:List Oper}{es:List Ef}(h:mG a ops 0 es)(k:Nat)(f:Ef)(b:es[k]?=some f)(H:Hp)(c:f.wh=some H):a H\/ux ops k=true:=by
 have:=h.Kd k f b H c
 rwa [arF]at this
theorem B1{st:St}{es:List Ef}(a:Hp->Prop)(g:a st.H){L:Nat->Bool}(h: ∀(d:Nat) f b,es[d]?=some f->L d=true->f.wh=some b->a b): ∀n,a (S st es L n).H
 |0=>g
 |n+1=>by
  simp only[S];have c:=B1 a g h n;cases i:es[n]? with
  |none=>exact c
  |some e=>
   simp only;cases j:L n with
   |false=>exact c
   |true=>
    simp only[aqX,Ef.app];cases k:e.wh with
    |none=>exact c
    |some b=>exact h n e b i j k
theorem TC.DF{X:bD}{id:Nat}{ops:List Oper}{st:St}{post:Exit->St->Prop}(ac:Hp->Prop)(XK:ac st.H)(hm:X.P.follows .mixedOrders=true)
  (h:iT X ac ops.toArray ops st λg x=>gj ops st.sl g=true/\mG ac ops 0 g/\post .normal x):TC X (.region id ops.toArray true) st post:=by
 obtain⟨g,x,Qt,MU,f8,NC⟩:=h;obtain⟨i9,Yt,PU⟩:=Qt.spec;simp only[gj,aqB]at MU;obtain⟨⟨XL,VY⟩,VZ⟩:=MU;have hE:=pG XL;have hP:=kA VY;have WM:x=S st g (λ_=>true) ops.length:=by rw[fH,arj (by omega),Yt]
 have RF: ∀(a:Nat) e,g[a]?=some e-> ∃s b,ops[a]?=some s/\(ja ops)[a]?=some b/\e.d=s.dst/\a<ops.length:=by
  intro a e r;have p:a<g.length:=by rcases aqh a g.length with h|h;exact h;simp[aqj h]at r
  have E:ops[a]?=some ops[a]:=by simp[show a<ops.length by omega]
  have t:a<(ja ops).length:=by rw[nQ];omega
  exact⟨ops[a],(ja ops)[a],E,by simp[t],(PU a _ e E r).2,by omega⟩
 have V0: ∀(a:Nat) e d,g[a]?=some e->e.nw=some d->gI d st.sl=true:=by
  have: ∀(K:List Ef),jc st.sl K=true-> ∀(a:Nat) e d,K[a]?=some e->e.nw=some d->gI d st.sl=true:=by
   intro K
   induction K with
   |nil=>intro _ a e d h;simp at h
   |cons j K L=>
    intro z a e d r N;simp only[jc,aqB]at z;cases a with
    |zero=>simp at r;subst r;simpa [N] using z.1
    |succ a=>simp at r;exact L z.2 a e d r N
  exact this g VZ
 intro Q U V;refine wp_region_any hm ?_;have i7: ∀(R:Nat) (i:Array Bool) (Q:Act) (U:World),i.size=ops.length->o_ ops.length (λa=>i.getD a false)=R->
   (∀D b,i.getD D false=true->(ja ops)[D]?=some b-> ∀c∈b,i.getD c false=true)->
   Inv X (S st g (λa=>i.getD a false) ops.length) Q U->
   wpAny X.P .any ops.toArray (λe B C=> ∃x,post e x/\Inv X x B C) R i Q U:=by
  intro R
  induction R with
  |zero=>
   intro i Q U Ok Y N9 d7;have hz:=sY Y;refine⟨?_,x,NC,?_⟩
   ·unfold Region.ready;rw[asU];intro c V;simp at V;have u:=hz c V;have w:c<i.size:=by omega
    simp[w]at u;simp[w,u]
   ·have e:S st g (λa=>i.getD a false) ops.length=x:=by
     rw[WM];have: ∀l,l<=ops.length->S st g (λa=>i.getD a false) l=S st g (λ_=>true) l:=by
      intro l
      induction l with
      |zero=>intro _;rfl
      |succ l L=>
       intro hn;simp only[S,L (by omega),hz l (by omega)]
     exact this _ (aqd _)
    rw[<-e];exact d7
  |succ R L=>
   intro i Q U Ok Y N9 d7;have f4: ∀c,c∈Region.ready .any ops.toArray i↔c<ops.length/\i.getD c true=false/\ ∃s,ops[c]?=some s/\ ∀e∈s.after.toList,Region.binds .any e=true->i.getD e.on false=true:=by
    intro c;unfold Region.ready;rw[asj];simp only[arU,List.size_toArray,aqB,arn,asY];constructor
    ·rintro⟨u,w,F⟩;refine⟨u,w,ops[c],by simp[u],?_⟩;simp[u]at F;intro e r t;have RH:e∈ops[c].after:=by simpa using r
     obtain⟨l,hn,rfl⟩:=asZ.1 RH;rcases F l hn with O|O
     ·rw[O]at t;cases t
     ·simpa using O
    ·rintro⟨u,w,s,F,O⟩;refine⟨u,w,?_⟩;have:ops[c]=s:=by simpa [u] using F
     simp[u,this];intro l hn;cases t:Region.binds .any s.after[l]with
     |false=>exact .inl rfl
     |true=>right;simpa using O s.after[l] (by simp) t
   refine⟨?_,?_⟩
   ·intro hr;obtain⟨c,u,w,F⟩:=xj (m:=ops.length) (f:= λa=>i.getD a false) (by omega);have:c∈Region.ready .any ops.toArray i:=by
     rw[f4];have Pr:c<i.size:=by omega
     refine⟨u,by simp[Pr]at w⊢;exact w,ops[c],by simp[u],?_⟩;intro e r t;have:=hE c ops[c] (by simp[u]) e r t;exact F e.on (by omega)
    rw[hr]at this;cases this
   ·intro c f9;obtain⟨Z,PV,s,E,V1⟩:=(f4 c).1 f9;have Pr:c<i.size:=by omega
    have A:i.getD c false=false:=by simp[Pr]at PV⊢;exact PV
    have WN:c<g.length:=by omega
    obtain⟨e,r⟩: ∃e,g[c]?=some e:=⟨g[c],by simp[WN]⟩;have Tt:c<(ja ops).length:=by rw[nQ];exact Z
    obtain⟨bi,QM⟩: ∃b,(ja ops)[c]?=some b:=⟨(ja ops)[c],by simp[Tt]⟩;have d9: ∀a,a∈bi->i.getD a false=true:=by
     intro a p;obtain⟨ed,u,w,F⟩:=zG E QM p;have O:=V1 ed u w;rcases F with F|⟨b',h5,_,h6⟩
     ·rw[<-F];exact O
     ·exact N9 _ b' O h5 a h6
    have d8: ∀(a:Nat) f,a<c->g[a]?=some f-> ∀j,ops[a]?=some j->dw ops.toArray j s f e=true->i.getD a false=true:=by
     intro a f p o j q Y;have:=(hP a c j f s e bi p q o E r QM).1 Y;simp at this;exact d9 a this
    have T: ∀(a:Nat) f,c<a->g[a]?=some f-> ∀j,ops[a]?=some j->dw ops.toArray s j e f=true->i.getD a false=false:=by
     intro a f p o j q Y;obtain⟨_,b,_,t,_,_⟩:=RF a f o;have:=(hP c a s e j f b p E r q o t).1 Y;simp at this;cases z:i.getD a false with
     |false=>rfl
     |true=>rw[N9 a b z t c this]at A;cases A
    obtain⟨SU,i8⟩:=PU c s e E r;have YY:(g.take c).foldl (λf7 e=>e.app f7) st=S st g (λ_=>true) c:=(fH st g c).symm;rw[YY]at SU;have Ql: ∀k a,(jU g k).W a=true-> ∃f j,g[a]?=some f/\ops[a]?=some j/\f.d=some k/\j.dst=some k:=by
     intro k a n;simp only[jU]at n;split at n
     ·rename_i f o;split at n
      ·rename_i d N;have:=aqr n;subst this;obtain⟨j,b,q,_,P,_⟩:=RF a f o;exact⟨f,j,o,q,N,by rw[<-P];exact N⟩
      ·cases n
     ·cases n
    have Rt: ∀k a,(lF g k).W a=true-> ∃f j,g[a]?=some f/\ops[a]?=some j/\k∈f.wb.map (·.1):=by
     intro k a n;simp only[lF]at n;split at n
     ·rename_i f o;obtain⟨j,b,q,_,_,_⟩:=RF a f o;exact⟨f,j,o,q,fw.1 n⟩
     ·cases n
    have Uz: ∀a,(sX g).W a=true-> ∃f j,g[a]?=some f/\ops[a]?=some j/\f.wh.isSome=true:=by
     intro a n;simp only[sX]at n;split at n
     ·rename_i f o;obtain⟨j,b,q,_,_,_⟩:=RF a f o;exact⟨f,j,o,q,n⟩
     ·cases n
    have Ru: ∀(K:List (Nat×List M)) (co:List Nat) (k:Nat),k∈K.map (·.1)->k∈co->(K.any λd6=>has co d6.1)=true:=by
     intro K co k u w;rw[ar7];obtain⟨d6,hp,rfl⟩:=aqM.1 u;exact⟨d6,hp,fw.2 w⟩
    have gc:Ag ops.toArray s e (S st g (λ_=>true) c) (S st g (λa=>i.getD a false) ops.length):=by
     refine⟨?_,?_,?_,?_⟩
     ·intro k ht;refine lE (jU g k) _ c ops.length (by omega) ?_ ?_
      ·intro a p n;obtain⟨f,j,o,q,_,P⟩:=Ql k a n;refine d8 a f p o j q ?_;have:has (slotsOf ops.toArray s) k=true:=fw.2 (by simp[slotsOf,ht]);simp[dw,P,this]
      ·intro a p M' n;by_cases G:a=c
       ·rw[G];exact A
       ·obtain⟨f,j,o,q,_,P⟩:=Ql k a n;refine T a f (by omega) o j q ?_;have:has (slotsOf ops.toArray s) k=true:=fw.2 (by simp[slotsOf,ht]);simp[dw,P,this]
     ·intro k ht;refine lE (lF g k) _ c ops.length (by omega) ?_ ?_
      ·intro a p n;obtain⟨f,j,o,q,PW⟩:=Rt k a n;refine d8 a f p o j q ?_;have:=Ru f.wb _ k PW ht;simp[dw,this]
      ·intro a p M' n;by_cases G:a=c
       ·rw[G];exact A
       ·obtain⟨f,j,o,q,PW⟩:=Rt k a n;refine T a f (by omega) o j q ?_;have:=Ru f.wb _ k PW ht;simp[dw,this]
     ·intro I;refine lE (sX g) _ c ops.length (by omega) ?_ ?_
      ·intro a p n;obtain⟨f,j,o,q,Tz⟩:=Uz a n;refine d8 a f p o j q ?_;simp only[ar2]at I;rcases I with I|I<;>simp[dw,Tz,I]
      ·intro a p M' n;by_cases G:a=c
       ·rw[G];exact A
       ·obtain⟨f,j,o,q,Tz⟩:=Uz a n;refine T a f (by omega) o j q ?_;simp only[ar2]at I;rcases I with I|I<;>simp[dw,Tz,I]
     ·intro d N k oo y;have ge: ∀l,l<=ops.length->get (S st g (λa=>i.getD a false) l).sl k=some (.loc d oo)->False:=by
       intro l
       induction l with
       |zero=>
        intro _ y;exact xc (V0 c e d r N) y
       |succ l V2=>
        intro hn y;simp only[S]at y;cases Oe:g[l]? with
        |none=>simp only[Oe]at y;exact V2 (by omega) y
        |some f=>
         simp only[Oe]at y;cases z:i.getD l false with
         |false=>rw[z]at y;exact V2 (by omega) y
         |true=>
          rw[z]at y;simp only[aqX,Ef.app]at y;obtain⟨j,b,q,t,P,_⟩:=RF l f Oe;cases Og:f.d with
          |none=>simp only[Og]at y;exact V2 (by omega) y
          |some d'=>
           simp only[Og]at y;rcases bM y with⟨_,w⟩|⟨_,w⟩
           ·have MW:l≠c:=by rintro rfl;rw[z]at A;cases A
            rcases Nat.lt_or_gt_of_ne MW with MV|ZL
            ·have:=(hP l c j f s e bi MV q Oe E r QM).2;simp[qy,N,<-w]at this
            ·have:=T l f ZL Oe j q (by simp[dw,N,<-w]);rw[this]at z;cases z
           ·exact V2 (by omega) w
      exact ge _ (aqd _) y
    have ZM:=SU _ gc (B1 ac XK (λa f h p hL n=>(f8.mem a f p h n).resolve_right λz=>by
     have G:a≠c:=by rintro rfl;rw[A]at hL;cases hL
     obtain⟨b,t,QM⟩:=B0 z c Z (aq7 G);have:=N9 a b hL t c QM;rw[A]at this;cases this) _)
    have XM: ∀B C,Inv X (e.app (S st g (λa=>i.getD a false) ops.length)) B C->wpAny X.P .any ops.toArray (λe B C=> ∃x,post e x/\Inv X x B C) R (i.setIfInBounds c true) B C:=by
     intro B C Py;have SV:(λa=>(i.setIfInBounds c true).getD a false)= λa=>if a=c then true else i.getD a false:=by
      funext a
      by_cases p:a=c
      ·subst p;simp[Pr]
      ·simp[p,ara (aq7 p)]
     refine L _ B C (by simp[Ok]) ?_ ?_ ?_
     ·rw[SV];have:=xk (m:=ops.length) (f:= λa=>i.getD a false) Z A;omega
     ·intro D b hj t a p;have NB:(if D=c then true else i.getD D false)=true:=by rw[<-congrFun SV D];exact hj
      have WO:(if a=c then true else i.getD a false)=true:=by
       by_cases G:a=c
       ·simp[G]
       ·rw[aqo G];by_cases WQ:D=c
        ·subst WQ;rw[QM]at t;injection t with t;subst t
         exact d9 a p
        ·rw[aqo WQ]at NB;exact N9 D b NB t a p
      rw[<-congrFun SV a]at WO;exact WO
     ·rw[SV];have g1: ∀k,get (S st g (λa=>if a=c then true else i.getD a false) ops.length).sl k=get (e.app (S st g (λa=>i.getD a false) ops.length)).sl k:=by
       intro k;refine rS (jU g k) _ c ops.length Z e r A ?_;intro TA a p M' Q4;obtain⟨f,j,o,q,_,P⟩:=Ql k a Q4;obtain⟨f',x',J,NK,_,ZN⟩:=Ql k c TA;rw[E]at NK;injection NK with NK;subst NK
       refine T a f p o j q ?_;have:has (slotsOf ops.toArray s) k=true:=fw.2 (by simp[slotsOf,ZN]);simp[dw,P,this]
      have g2: ∀k,get (S st g (λa=>if a=c then true else i.getD a false) ops.length).bx k=get (e.app (S st g (λa=>i.getD a false) ops.length)).bx k:=by
       intro k;refine rS (lF g k) _ c ops.length Z e r A ?_;intro TA a p M' Q4;obtain⟨f,j,o,q,PW⟩:=Rt k a Q4;obtain⟨f',x',J,NK,UG⟩:=Rt k c TA;rw[r]at J;injection J with J;subst J
       refine T a f p o j q ?_;have:=Ru f.wb (e.rb++e.wb.map (·.1)) k PW (aql.2 (.inr UG));simp[dw,this]
      have g3:(S st g (λa=>if a=c then true else i.getD a false) ops.length).H=(e.app (S st g (λa=>i.getD a false) ops.length)).H:=by
       refine rS (sX g) _ c ops.length Z e r A ?_;intro TA a p M' Q4;obtain⟨f,j,o,q,Tz⟩:=Uz a Q4;obtain⟨f',x',J,NK,i6⟩:=Uz c TA;rw[r]at J;injection J with J;subst J
       refine T a f p o j q ?_;simp[dw,Tz,i6]
      have:=Inv.nK (X:=X) (sl:=(e.app (S st g (λa=>i.getD a false) ops.length)).sl) (bx:=(e.app (S st g (λa=>i.getD a false) ops.length)).bx) (H:=(e.app (S st g (λa=>i.getD a false) ops.length)).H)
       (Na:=(S st g (λa=>if a=c then true else i.getD a false) ops.length).sl) (Ns:=(S st g (λa=>if a=c then true else i.getD a false) ops.length).bx) Py
       (λk v hv=>by rw[<-g1];exact hv) g2
      rw[<-g3]at this;exact this
    have:=ZM Q U d7 (wpAny X.P .any ops.toArray (λe B C=> ∃x,post e x/\Inv X x B C) R (i.setIfInBounds c true)) (λe B C=> ∃x,post e x/\Inv X x B C) XM;unfold wpOp;have ZO:ops.toArray[c]?=some s:=by simpa using E
    simp only[ZO];split
    ·rename_i n;rw[aqy n]at this;exact .inl this
    ·rename_i n;rw[aqo n]at this;exact this
 refine i7 _ _ Q _ (by simp) ?_ ?_ ?_
 ·have: ∀l,o_ l (λa=>(Array.replicate ops.toArray.size false).getD a false)=l:=by
   intro l
   induction l with
   |zero=>rfl
   |succ l L=>
    simp only[o_,L];have:(Array.replicate ops.toArray.size false).getD l false=false:=by simp[arC];split<;>rfl
    rw[this];rfl
  simpa using this ops.length
 ·intro D b hj;have:(Array.replicate ops.toArray.size false).getD D false=false:=by simp[arC];split<;>rfl
  rw[this]at hj;cases hj
 ·have hz: ∀l,S st g (λa=>(Array.replicate ops.toArray.size false).getD a false) l=st:=by
   intro l
   induction l with
   |zero=>rfl
   |succ l L=>
    have:(Array.replicate ops.toArray.size false).getD l false=false:=by simp[arC];split<;>rfl
    simp only[S,L,this];cases g[l]?<;>rfl
  rw[hz];obtain⟨σ,MD,rfl,V⟩:=V;exact⟨{σ with w:= {σ.w with drawn:=σ.w.drawn+1} },MD,rfl,V.ext (fJ.drew _)⟩
theorem pf.fi{X:bD}{b:Hp->Prop}{ops:Array Oper}{l:List Oper}{st a:St}{es:List Ef}(h:pf X ops l st es a):tG X b ops l st es a:=by
 induction h with
 |nil st=>exact .nil st
 |cons h c g d=>exact .cons (λe f _=>h e f) c d
theorem mG.all{a:Hp->Prop}{ops:List Oper} : ∀{es:List Ef} {n:Nat},(∀e∈es,∀h,e.wh=some h->a h)->mG a ops n es
 | [],_,_=>trivial
 |e::f,n,h=>⟨by split;trivial;rename_i c;exact .inl (h e aqP _ c),mG.all λb d=>h b (aqF _ d)⟩
theorem TC.draw{X:bD}{c:Nat}{ops:List Oper}{st:St}{post:Exit->St->Prop}(d:X.P.follows .mixedOrders=true)
  (h:TF X ops.toArray ops st λa b=>gj ops st.sl a=true/\post .normal b):TC X (.region c ops.toArray true) st post:=by
 obtain⟨a,b,e,f,g⟩:=h;exact TC.DF (λ_=>True) trivial d ⟨a,b,e.fi,f,.all λ_ _ _ _=>trivial,g⟩
end Go.Mt
