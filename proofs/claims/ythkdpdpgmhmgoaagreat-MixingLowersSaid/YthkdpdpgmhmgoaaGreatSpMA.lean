/- Contracts of functions of the program, and what they lean on. Conditions: those of each theorem. -/
import Derived.Calls
import Derived.Laws.World
import Derived.Laws.Sem
import Derived.RangeFuncLeaves
import Derived.RangeFuncRecord
import Derived.OrdersIn
import Derived.TacticsIn
import Derived.LoopIn
import Derived.Laws.StructEq

set_option linter.unusedVariables false
set_option linter.unusedSimpArgs false
set_option maxHeartbeats 64000000
set_option maxRecDepth 100000
open Array renaming getElem?_eq_getElem->a3N,getD_eq_getD_getElem?->a3E,getElem?_modify->a5N,ext'->b1p,toList_map->c2G,foldl_toList->d6e,toList_zipIdx->d5d,range->d8Q,getElem?_append_left->c7k,getElem?_append_right->c9M
open Bool renaming or_eq_true->b6w,not_eq_true->c8v,and_eq_true->a3C,false_eq_true->a1N,not_false->d6O
open Classical renaming choose->b7G,choose_spec->b2K
open Function renaming comp_def->b7A
open List renaming map_cons->a0I,getElem?_map->a1C,any_eq_true->b9G,mem_of_getElem?->a6y,getElem?_take->a8R,getElem?_drop->a8M,eq_nil_of_length_eq_zero->a2S,mem_of_mem_drop->b1J,mem_of_mem_take->a6U,getElem?_eq_some_iff->a5y,getElem?_eq_getElem->a4G,getD->a7V,getElem_mem->d7n,getElem?_cons_zero->a0F,mem_map->a0E,take_zero->b0P,replicate->a2N,range->a7I,cons_append->b4O,all_eq_true->a8C,getElem?_cons_succ->a5J,length_nil->c2i,foldlM_cons->c7H,mapM_cons->a0Q,getD_cons_zero->c4B,zipIdx_cons->d7o,foldl_cons->b9j,append_assoc->b9Z,getElem?_append_left->a9L,getElem?_append_right->a7U,getElem_of_mem->d7f,length_cons->a4S,getElem?_toArray->c7y,length_pos_iff->a6I,mem_or_eq_of_mem_set->c8P,getElem?_set->c9b,drop_eq_getElem_cons->c5u,take_succ_cons->d2h,drop_drop->d2P,drop_zero->c4Q,take_of_length_le->a0z
open List.cons renaming injEq->a4U
open Nat renaming le_refl->a8F,le_trans->a0N,lt_of_lt_of_le->a6R,eq_zero_or_pos->b0q,mul_le_mul_right->a0G,add_mul->a4N,add_zero->b1H,zero_add->b5D,add_assoc->b5O,mul_comm->c2t,mod_lt->d2T,div_add_mod->d0C,sub_mul->d6R
open Option renaming map_some->a8H,bind_eq_bind->a5V,bind_some->a9J,map->d3Q,getD_some->a1J
open Option.some renaming injEq->a3y
open Prod.mk renaming injEq->a2L

section
namespace Go.Vm
inductive Kd where
 |b
 |i (k:IntKind)
 |s
 deriving DecidableEq,Inhabited
def Y0:Value->Option Kd
 | .bool _=>some .b
 | .int k _=>some (.i k)
 | .string _=>some .s
 | _=>none
abbrev Sk:=Bool×List Kd×Bool
def Xh:Value->Option (Bool×List Kd)
 | .agg cs=>(cs.toList.mapM Y0).map fun l=>(true,l)
 |v=>(Y0 v).map fun k=>(false,[k])
inductive IV where
 |v (x:Value)
 |Z6 (sz:Nat) (xs:List (List IV))
 |pt (cs:List IV)
 |mp (sk:Sk) (g:List Value->Option (List IV))
 deriving Inhabited
def at2{α:Type}(xs:List (List α))(i j:Nat):Option α:=xs[i]?.bind (·[j]?)
def X0(v:Value):List Value:=v.cells.toList
def Sz:Value->Bool
 | .agg _=>true
 | _=>false
def Fits(sk:Sk)(e:MapEntry):Prop:=Xh e.key=some (sk.1,sk.2.1)/\Sz e.val=sk.2.2
def Wm(es:Array MapEntry)(clock:Nat):Prop:=(∀e∈es.toList,e.born<clock)/\(es.toList.map (·.born)).Nodup
inductive Yq (A:Nat->Prop) (w:World):IV->Value->Prop
 |v (x:Value) (h1:x.oneCell'=true):Yq A w (.v x) x
 |V5 (sz:Nat):Yq A w (.Z6 sz []) (.slice none 0 0)
 |Z6 (sz:Nat) (xs:List (List IV)) (b off cap:Nat) (a:Addr) (vs:Nat->Nat->Value)
  (ha:xs≠[]->a=⟨b,off,none⟩) (hs:∀x∈xs,x.length=sz) (WT:xs.length<=cap)
  (hc:∀i j c,at2 xs i j=some c->A b/\w.cell? ⟨b,off+(i*sz+j),none⟩=some (vs i j))
  (hr:∀i j c,at2 xs i j=some c->Yq A w c (vs i j)):Yq A w (.Z6 sz xs) (.slice (some a) xs.length cap)
 |pt (cs:List IV) (b off:Nat) (vs:Nat->Value)
  (hc:∀i c,cs[i]? =some c->A b/\w.cell? ⟨b,off+i,none⟩=some (vs i))
  (hr:∀i c,cs[i]? =some c->Yq A w c (vs i)):Yq A w (.pt cs) (.pointer (some ⟨b,off,none⟩))
 |mp (sk:Sk) (g:List Value->Option (List IV)) (b clock:Nat) (es:Array MapEntry) (vs:List Value->Nat->Value)
  (hA:A b) (hh:w.heap[b]? =some (.map es clock))
  (UA:∀e∈es.toList,Fits sk e)
  (XZ:∀e∈es.toList,∃c,g (X0 e.key)=some c)
  (YQ:(es.toList.map fun e=>X0 e.key).Nodup) (YD:Wm es clock)
  (hg:∀k c,g k=some c->∃e∈es.toList,X0 e.key=k/\e.val.cells.size=c.length/\∀i x,c[i]? =some x->e.val.cells[i]? =some (vs k i))
  (hr:∀k c,g k=some c->∀i x,c[i]? =some x->Yq A w x (vs k i)):Yq A w (.mp sk g) (.map (some b))
 |Mp (sk:Sk) (g:List Value->Option (List IV)) (h:∀k,g k=none):Yq A w (.mp sk g) (.map none)
theorem Vw{w:World}{b:Nat}{o:Obj}(h:w.heap[b]? =some o):b<w.heap.size:=by
 rcases Nat.lt_or_ge b w.heap.size with h'|h'
 ·exact h'
 ·rw[Array.getElem?_eq_none h']at h;cases h
theorem d4T{w w':World}{b:Nat}(h:w'.heap[b]? =w.heap[b]?)(o:Nat):w'.cell? ⟨b,o,none⟩=w.cell? ⟨b,o,none⟩:=by
 simp only[World.cell?,h]
theorem Yq.mono{A A':Nat->Prop}{w w':World}{x:IV}{v:Value}(h:Yq A w x v)
 (hA:∀b,b<w.heap.size->A b->A' b) (hw:∀b,b<w.heap.size->A b->w'.heap[b]? =w.heap[b]?):Yq A' w' x v:=by
 induction h with
 |v x h1=>exact .v x h1
 |V5 sz=>exact .V5 sz
 |Z6 sz xs b off cap a vs ha hs WT hc hr ih=>
  refine .Z6 sz xs b off cap a vs ha hs WT (fun i j c h=>?_) ih;obtain⟨h1,h2⟩:=hc i j c h;have hb:=World.block_lt_of_cell? w _ h2;exact⟨hA b hb h1,by rw[d4T (hw b hb h1)];exact h2⟩
 |pt cs b off vs hc hr ih=>
  refine .pt cs b off vs (fun i c h=>?_) ih;obtain⟨h1,h2⟩:=hc i c h;have hb:=World.block_lt_of_cell? w _ h2;exact⟨hA b hb h1,by rw[d4T (hw b hb h1)];exact h2⟩
 |mp sk g b clock es vs kU hh UA XZ YQ YD hg hr ih=>
  have hb:=Vw hh;exact .mp sk g b clock es vs (hA b hb kU) (by rw[hw b hb kU];exact hh) UA XZ YQ YD hg ih
 |Mp sk g h=>exact .Mp sk g h
inductive Z3 where
 |ptr (id off:Nat)
 |val (x:IV)
 deriving Inhabited
inductive AV where
 |iv (x:IV)
 |nil (sz:Nat)
 |sl (id sz lo len:Nat)
 |ptr (id off:Nat)
 |ep (id sz i off:Nat)
 |mpr (id:Nat)
 |fn (f:FuncId) (first caps:List Z3)
 |agg (cs:List AV)
 |Zp (vs:List AV)
 |un
 |junk
 deriving Inhabited
abbrev GZ:=(Nat->Prop)->(Nat->Prop)->World->Prop
inductive Ob where
 |box (cs:List AV)
 |list (sz:Nat) (xs:List (List IV))
 |map (sk:Sk) (g:List Value->Option (List IV))
 |WE (sk:Sk) (g:List Value->Option (List IV)) (n:Int) (k:List Value)
 |YN (org sz:Nat) (xs:List (List IV))
 |YA (sk:Sk) (sz:Nat) (g:List Value->Option (List (List IV))) (hole:Option (List Value))
 |ZI (sz:Nat) (xs:List (List (List IV))) (hole:Option Nat)
 |iter (sk:Sk) (g:List Value->Option (List IV)) (left:List (List Value)) (last:Option (List Value))
 |gh (Z:GZ) (vs:List Value) (cs:List AV)
def Ob.dim:Ob->Option (Nat×Nat)
 | .list sz xs=>some (sz,xs.length)
 | .YN _ sz xs=>some (sz,xs.length)
 | .ZI _ xs _=>some (1,xs.length)
 | _=>none
def Ob.org:Ob->Nat->Nat
 | .YN org _ _,_=>org
 | _,id=>id
def Ob.Zf:Ob->Bool
 | .YN .. =>true
 | _=>false
def Ob.multi:Ob->Bool
 | .YA .. =>true
 | .ZI .. =>true
 | .gh .. =>true
 | _=>false
abbrev Hp:=List (Nat×Ob)
def look{α:Type}:List (Nat×α)->Nat->Option α
 | [],_=>none
 |(j,x)::r,k=>if j=k then some x else look r k
structure Pl where
 main:Nat->Option (Nat×(Nat×Nat))
 sub:Nat->Nat->Prop
instance:CoeFun Pl (fun _=>Nat->Option (Nat×(Nat×Nat))):=⟨Pl.main⟩
inductive W9 (A:Nat->Prop) (ψ:Pl) (H:Hp) (w:World):Z3->Value->Prop
 |ptr (id off b:Nat) (k:Nat×Nat) (o:Ob) (ho:look H id=some o) (hb:ψ id=some (b,k)):W9 A ψ H w (.ptr id off) (.pointer (some ⟨b,off,none⟩))
 |val (x:IV) (v:Value) (h1:Yq A w x v):W9 A ψ H w (.val x) v
inductive ZL (A:Nat->Prop) (ψ:Pl) (H:Hp) (w:World):AV->Value->Prop
 |iv (x:IV) (v:Value) (h:Yq A w x v):ZL A ψ H w (.iv x) v
 |nil (sz:Nat):ZL A ψ H w (.nil sz) (.slice none 0 0)
 |UR (id sz:Nat) (o:Ob) (n:Nat) (ho:look H id=some o) (he:o.dim=some (sz,n)) (hb:ψ id=none):ZL A ψ H w (.sl id sz 0 0) (.slice none 0 0)
 |sl (id sz lo len b:Nat) (k:Nat×Nat) (cap:Nat) (a:Addr) (o:Ob) (n:Nat) (ho:look H id=some o) (he:o.dim=some (sz,n)) (hx:lo+len<=n)
  (hb:ψ id=some (b,k)) (ha:0<cap->a=⟨b,k.1+lo*sz,none⟩) (Vc:len<=cap) (hk:(lo+cap)*sz<=k.2) (hm:cap<2^63):
  ZL A ψ H w (.sl id sz lo len) (.slice (some a) len cap)
 |ptr (id off b:Nat) (k:Nat×Nat) (o:Ob) (ho:look H id=some o) (hb:ψ id=some (b,k)):ZL A ψ H w (.ptr id off) (.pointer (some ⟨b,off,none⟩))
 |ep (id sz i off b:Nat) (k:Nat×Nat) (o:Ob) (n:Nat) (ho:look H id=some o) (he:o.dim=some (sz,n)) (hi:i<n) (hb:ψ id=some (b,k)):
  ZL A ψ H w (.ep id sz i off) (.pointer (some ⟨b,k.1+(i*sz+off),none⟩))
 |mpr (id b:Nat) (k:Nat×Nat) (o:Ob) (ho:look H id=some o) (hb:ψ id=some (b,k)):ZL A ψ H w (.mpr id) (.map (some b))
 |fn (f:FuncId) (first caps:List Z3) (vf vc:Array Value) (hf:vf.size=first.length) (hc:vc.size=caps.length)
  (h1:∀i c,first[i]? =some c->W9 A ψ H w c (vf.getD i undef)) (h2:∀i c,caps[i]? =some c->W9 A ψ H w c (vc.getD i undef)):
  ZL A ψ H w (.fn f first caps) (.func (.func f) vf vc)
 |agg (cs:List AV) (vs:Array Value) (hl:vs.size=cs.length) (h:∀i c,cs[i]? =some c->ZL A ψ H w c (vs.getD i undef)):ZL A ψ H w (.agg cs) (.agg vs)
 |Zp (cs:List AV) (vs:Array Value) (hl:vs.size=cs.length) (h:∀i c,cs[i]? =some c->ZL A ψ H w c (vs.getD i undef)):ZL A ψ H w (.Zp cs) (.tuple vs)
 |un:ZL A ψ H w .un undef
 |junk (v:Value):ZL A ψ H w .junk v
def Ob.le(o o':Ob):Prop:=∀sz n,o.dim=some (sz,n)->∃n',o'.dim=some (sz,n')/\n<=n'
theorem Ob.le_refl(o:Ob):o.le o:=fun _ n h=>⟨n,h,a8F _⟩
theorem Ob.le_none{o o':Ob}(h:o.dim=none):o.le o':=fun _ _ h'=>by rw[h]at h';cases h'
theorem Ob.RM{o o':Ob}{sz n n':Nat}(h:o.dim=some (sz,n))(h':o'.dim=some (sz,n'))(hn:n<=n'):o.le o':=fun _ _ e=>by
 rw[h]at e;cases e;exact⟨n',h',hn⟩
def U8(ψ ZF:Pl)(H H':Hp):Prop:=∀id o,look H id=some o->(∃o',look H' id=some o'/\o.le o')/\ZF id=ψ id
theorem U8.refl(ψ:Pl)(H:Hp):U8 ψ ψ H H:=fun _ o h=>⟨⟨o,h,o.le_refl⟩,rfl⟩
theorem U8.dim{ψ ZF:Pl}{H H':Hp}(h:U8 ψ ZF H H'){id sz n:Nat}{o:Ob}(ho:look H id=some o)(he:o.dim=some (sz,n)):
 ∃o' n',look H' id=some o'/\o'.dim=some (sz,n')/\n<=n':=by
 obtain⟨⟨o',h1,h2⟩,_⟩:=h id _ ho;obtain⟨n',h3,h4⟩:=h2 sz n he;exact⟨o',n',h1,h3,h4⟩
theorem W9.mono{A A':Nat->Prop}{ψ ZF:Pl}{H H':Hp}{w w':World}{c:Z3}{v:Value}(h:W9 A ψ H w c v)
 (hA:∀b,b<w.heap.size->A b->A' b) (hw:∀b,b<w.heap.size->A b->w'.heap[b]? =w.heap[b]?) (hk:U8 ψ ZF H H'):W9 A' ZF H' w' c v:=by
 cases h with
 |ptr id off b k o ho hb=>
  obtain⟨⟨o',h1,_⟩,h2⟩:=hk id o ho;exact .ptr id off b k o' h1 (by rw[h2];exact hb)
 |val x v h1=>exact .val x v (h1.mono hA hw)
theorem ZL.mono{A A':Nat->Prop}{ψ ZF:Pl}{H H':Hp}{w w':World}{x:AV}{v:Value}(h:ZL A ψ H w x v)
 (hA:∀b,b<w.heap.size->A b->A' b) (hw:∀b,b<w.heap.size->A b->w'.heap[b]? =w.heap[b]?) (hk:U8 ψ ZF H H'):ZL A' ZF H' w' x v:=by
 induction h with
 |iv x v h=>exact .iv x v (h.mono hA hw)
 |nil sz=>exact .nil sz
 |UR id sz o n ho he hb=>
  obtain⟨o',n',h1,h2,h3⟩:=hk.dim ho he;exact .UR id sz o' n' h1 h2 (by rw[(hk id _ ho).2];exact hb)
 |sl id sz lo len b k cap a o n ho he hx hb ha Vc SS hm=>
  obtain⟨o',n',h1,h2,h3⟩:=hk.dim ho he;exact .sl id sz lo len b k cap a o' n' h1 h2 (a0N hx h3) (by rw[(hk id _ ho).2];exact hb) ha Vc SS hm
 |ptr id off b k o ho hb=>
  obtain⟨⟨o',h1,_⟩,h2⟩:=hk id o ho;exact .ptr id off b k o' h1 (by rw[h2];exact hb)
 |ep id sz i off b k o n ho he hi hb=>
  obtain⟨o',n',h1,h2,h3⟩:=hk.dim ho he;exact .ep id sz i off b k o' n' h1 h2 (a6R hi h3) (by rw[(hk id _ ho).2];exact hb)
 |mpr id b k o ho hb=>
  obtain⟨⟨o',h1,_⟩,h2⟩:=hk id o ho;exact .mpr id b k o' h1 (by rw[h2];exact hb)
 |fn f first caps vf vc hf hc h1 h2=>
  exact .fn f first caps vf vc hf hc (fun i c h=>(h1 i c h).mono hA hw hk) (fun i c h=>(h2 i c h).mono hA hw hk)
 |agg cs vs hl _ ih=>exact .agg cs vs hl ih
 |Zp cs vs hl _ ih=>exact .Zp cs vs hl ih
 |un=>exact .un
 |junk v=>exact .junk v
structure St where
 fr:List (Nat×AV)
 hp:Hp
def St.get(s:St)(t:Nat):AV:=(look s.fr t).getD .junk
def St.set(s:St)(d:Nat)(x:AV):St:={s with fr:=(d,x)::s.fr}
def St.put(s:St)(d:Option Nat)(x:AV):St:=match d with|some d=>s.set d x|none=>s
theorem St.WW(s:St)(d t:Nat)(x:AV):(s.set d x).get t=if d=t then x else s.get t:=by
 simp only[St.get,St.set,look];split<;>rfl
def ZZ(ψ:Pl)(id b:Nat):Prop:=(∃k,ψ id=some (b,k))\/ψ.sub id b
structure En where
 A:Nat->Prop
 w:World
 ids:List Nat
 ψ:Pl
 big:∀id∈ids,1000<=id
 lN:∀b id,id∈ids->ZZ ψ id b->¬A b
 there:∀id b,id∈ids->ZZ ψ id b->b<w.heap.size
 inA:∀b,A b->b<w.heap.size
 ND:Nat->Prop
 f8O:∀b,ND b->b<w.heap.size
 f9O:∀b,ND b->¬A b
 KJ:∀b id,id∈ids->ZZ ψ id b->¬ND b
def En.mp(E:En)(b:Nat):Prop:=(∃id∈E.ids,ZZ E.ψ id b)\/E.ND b
def En.fresh(E:En)(b:Nat):Prop:=E.ND b\/E.w.heap.size<=b
theorem En.no{E:En}{b:Nat}{α:Prop}(hb:b<E.w.heap.size)(hm:¬E.mp b)(h:E.fresh b):α:=by
 rcases h with h|h
 ·exact absurd (.inr h) hm
 ·omega
def ZD(ψ:Pl)(H:Hp)(b:Nat):Prop:=∃id o,look H id=some o/\ZZ ψ id b
def Ug(ψ:Pl)(H:Hp)(w:World):Prop:=∀id o b,look H id=some o->ψ.sub id b->o.multi=true/\b<w.heap.size/\∀k,ψ id≠some (b,k)
def Im(E:En)(ψ:Pl)(H:Hp)(b:Nat):Prop:=(E.A b\/E.fresh b)/\¬ZD ψ H b
def ctl:Obj->Bool
 | .deferred _=>true
 | .loop _=>true
 | _=>false
def P0(w:World)(b:Nat):Prop:=∃o,w.heap[b]? =some o/\ctl o=true
def NF(Z:GZ)(A B:Nat->Prop)(w:World):Prop:=∀(A' B':Nat->Prop) (w':World),(∀b,b<w.heap.size->A b->¬P0 w b->A' b)->(∀b,B b->B' b)->
 (∀b,b<w.heap.size->A b->¬P0 w b->w'.heap[b]? =w.heap[b]?)->(∀b,B b->w'.heap[b]? =w.heap[b]?)->Z A' B' w'
theorem NF.Ut{Z:GZ}{A B A' B':Nat->Prop}{w w':World}(h:NF Z A B w)(hA:∀b,b<w.heap.size->A b->¬P0 w b->A' b)(hB:∀b,B b->B' b)
 (hw:∀b,b<w.heap.size->A b->¬P0 w b->w'.heap[b]? =w.heap[b]?) (hb:∀b,B b->w'.heap[b]? =w.heap[b]?):NF Z A' B' w':=fun A2 B2 w2 k1 k2 k3 k4=>by
 have lt:∀b,b<w.heap.size->A b->¬P0 w b->b<w'.heap.size/\¬P0 w' b:=fun b hb ha hd=>by
  have e:=hw b hb ha hd;refine⟨?_,fun⟨q,hq,hc⟩=>hd ⟨q,by rw[<-e];exact hq,hc⟩⟩;rw[a3N hb]at e;exact Vw e
 exact h A2 B2 w2 (fun b hb ha hd=>k1 b (lt b hb ha hd).1 (hA b hb ha hd) (lt b hb ha hd).2) (fun b hb=>k2 b (hB b hb))
  (fun b hb ha hd=>(k3 b (lt b hb ha hd).1 (hA b hb ha hd) (lt b hb ha hd).2).trans (hw b hb ha hd)) (fun b h=>(k4 b (hB b h)).trans (hb b h))
theorem NF.mono{Z:GZ}{A B A' B':Nat->Prop}{w w':World}(h:NF Z A B w)(hA:∀b,b<w.heap.size->A b->A' b)(hB:∀b,B b->B' b)
 (hw:∀b,b<w.heap.size->A b->w'.heap[b]? =w.heap[b]?) (hb:∀b,B b->w'.heap[b]? =w.heap[b]?):NF Z A' B' w':=
 h.Ut (fun b hb ha _=>hA b hb ha) hB (fun b hb ha _=>hw b hb ha) hb
theorem NF.now{Z:GZ}{A B:Nat->Prop}{w:World}(h:NF Z A B w):Z A B w:=h A B w (fun _ _ h _=>h) (fun _ h=>h) (fun _ _ _ _=>rfl) (fun _ _=>rfl)
def cP(A:Nat->Prop)(w:World)(sz:Nat)(xs:List (List IV))(b:Nat)(k:Nat×Nat):Prop:=
 ∃c e,w.heap[b]? =some (.cells c e (0,0))/\k.1+k.2=c.size/\xs.length*sz<=k.2∧
  ∀i j x,at2 xs i j=some x->Yq A w x (c.getD (k.1+(i*sz+j)) undef)
def SZ(A:Nat->Prop)(w:World)(sz:Nat)(xs:List (List IV))(p:Option (Nat×(Nat×Nat)))(v:Value):Prop:=
 (∀x∈xs,x.length=sz)/\((p=none/\xs=[]/\v= .slice none 0 0)∨
  ∃b k cap a,p=some (b,k)/\v= .slice (some a) xs.length cap/\(0<cap->a=⟨b,k.1,none⟩)/\xs.length<=cap/\cap*sz<=k.2/\cap<2^63/\cP A w sz xs b k)
def Xw(A:Nat->Prop)(w:World)(sk:Sk)(g:List Value->Option (List IV))(es:Array MapEntry):Prop:=
 (∀e∈es.toList,Fits sk e)/\(∀e∈es.toList,∃c,g (X0 e.key)=some c)/\(es.toList.map fun e=>X0 e.key).Nodup∧
 ∀k c,g k=some c->∃e∈es.toList,X0 e.key=k/\e.val.cells.size=c.length/\∀i x,c[i]? =some x->Yq A w x (e.val.cells.getD i undef)
def WU(A:Nat->Prop)(ψ:Pl)(H:Hp)(w:World)(id:Nat):Ob->Prop
 | .box cs=>∃b c e,ψ id=some (b,(0,c.size))/\w.heap[b]? =some (.cells c e (0,0))/\c.size=cs.length∧
  ∀i x,cs[i]? =some x->ZL A ψ H w x (c.getD i undef)
 | .list sz xs=>(∀x∈xs,x.length=sz)/\((ψ id=none/\xs=[])∨
  ∃b k c e,ψ id=some (b,k)/\w.heap[b]? =some (.cells c e (0,0))/\k.1+k.2=c.size/\xs.length*sz<=k.2∧
   ∀i j x,at2 xs i j=some x->Yq A w x (c.getD (k.1+(i*sz+j)) undef))
 | .map sk g=>∃b es clock,ψ id=some (b,(0,0))/\w.heap[b]? =some (.map es clock)/\Wm es clock/\Xw A w sk g es
 | .WE sk g n kk=>∃b es clock,ψ id=some (b,(0,0))/\w.heap[b]? =some (.map es clock)/\Wm es clock/\Xw A w sk g es/\∃e∈es.toList,(e.born:Int)=n/\X0 e.key=kk
 | .YN _ sz xs=>(∀x∈xs,x.length=sz)/\((ψ id=none/\xs=[])∨
  ∃b k c e,ψ id=some (b,k)/\w.heap[b]? =some (.cells c e (0,0))/\k.1+k.2=c.size/\xs.length*sz<=k.2∧
   ∀i j x,at2 xs i j=some x->Yq A w x (c.getD (k.1+(i*sz+j)) undef))
 | .YA sk sz g hole=>∃b es clock,∃pl:List Value->Option (Nat×(Nat×Nat)),ψ id=some (b,(0,0))/\w.heap[b]? =some (.map es clock)/\Wm es clock∧
  (∀e∈es.toList,Fits sk e)/\sk.2.2=false/\(es.toList.map fun e=>X0 e.key).Nodup/\(∀e∈es.toList,hole=some (X0 e.key)\/∃xs,g (X0 e.key)=some xs)∧
  (∀k,hole=some k->g k=none/\∃e∈es.toList,X0 e.key=k)∧
  (∀k xs,g k=some xs->∃e∈es.toList,X0 e.key=k/\SZ A w sz xs (pl k) e.val)∧
  (∀k xs b' q,g k=some xs->pl k=some (b',q)->ψ.sub id b')∧
  (∀k xs k' xs' b' q q',g k=some xs->g k'=some xs'->pl k=some (b',q)->pl k'=some (b',q')->k=k')
 | .ZI sz xs hole=>(∀j,hole=some j->j<xs.length)/\∃b k c e,∃pl:Nat->Option (Nat×(Nat×Nat)),ψ id=some (b,k)/\w.heap[b]? =some (.cells c e (0,0))/\k.1+k.2=c.size/\xs.length<=k.2∧
  (∀i x,xs[i]? =some x->hole≠some i->SZ A w sz x (pl i) (c.getD (k.1+i) undef))∧
  (∀i x b' q,xs[i]? =some x->hole≠some i->pl i=some (b',q)->ψ.sub id b')∧
  (∀i x i' x' b' q q',xs[i]? =some x->hole≠some i->xs[i']? =some x'->hole≠some i'->pl i=some (b',q)->pl i'=some (b',q')->i=i')
 | .iter sk g left last=>∃b m since stamps Yx,ψ id=some (b,(0,0))/\w.heap[b]? =some (.mapIter m since stamps Yx)∧
  (
   (m=none/\left=[]/\last=none/\∀k,g k=none)∨
   ∃bm es,m=some bm/\A bm/\w.heap[bm]? =some (.map es since)/\Yx=since/\Wm es since/\Xw A w sk g es/\left.Nodup∧
    (∀e∈es.toList,X0 e.key∈left↔e.born∉stamps.toList)/\(∀k∈left,∃e∈es.toList,X0 e.key=k)∧
    (last=none\/∃e∈es.toList,∃seen:Array Nat,stamps=seen.push e.born/\last=some (X0 e.key)))
 | .gh Z vs cs=>ψ id=none/\NF Z A (ψ.sub id) w/\vs.length=cs.length/\∀i x,cs[i]? =some x->ZL A ψ H w x (vs.getD i undef)
def lO(k:Nat)(A:Nat->Prop)(w:World)(ds:List Deferred):Prop:=ds.Nodup/\∀d∈ds,∃D,d={target:= .collected D,args:= #[]}/\k<=D/\A D/\w.heap[D]? =some (.deferred (some []))
theorem lO.mono{k:Nat}{A A':Nat->Prop}{w w':World}{ds:List Deferred}(h:lO k A w ds)(hA:∀b,b<w.heap.size->A b->A' b)(hw:∀b,b<w.heap.size->A b->w'.heap[b]? =w.heap[b]?):lO k A' w' ds:=⟨h.1,fun d hd=>by
 obtain⟨D,h1,h0,h2,h3⟩:=h.2 d hd;have hl:=Vw h3
 exact⟨D,h1,h0,hA D hl h2,by rw[hw D hl h2];exact h3⟩⟩
structure Z7 (E:En) (n:Nat) (ψ:Pl) (s:St) (a:Act) (w:World):Prop where
 size:a.tmps.size=n
 defers:lO E.w.heap.size (Im E ψ s.hp) w a.defers
 frame:∀t,ZL (Im E ψ s.hp) ψ s.hp w (s.get t) (a.tmps.getD t undef)
 YC:∀id o,look s.hp id=some o->WU (Im E ψ s.hp) ψ s.hp w id o
 inj:∀id XK o o' b,look s.hp id=some o->look s.hp XK=some o'->ZZ ψ id b->ZZ ψ XK b->id=XK
 own:∀id o b,look s.hp id=some o->ZZ ψ id b->(o.org id∈E.ids/\ZZ E.ψ (o.org id) b)\/E.fresh b
 YU:Ug ψ s.hp w
 par:∀id,id∈E.ids->ψ id=E.ψ id
 old:∀b,b<E.w.heap.size->¬E.mp b->w.heap[b]? =E.w.heap[b]?
 grow:E.w.heap.size<=w.heap.size
 same:w.os=E.w.os/\w.tape=E.w.tape/\w.output=E.w.output/\E.w.drawn<=w.drawn
def T8(E:En)(n:Nat)(s:St)(a:Act)(w:World):Prop:=∃ψ,Z7 E n ψ s a w
structure Ext (w w':World):Prop where
 block:∀b,b<w.heap.size->w'.heap[b]? =w.heap[b]?
 size:w.heap.size<=w'.heap.size
 same:w'.os=w.os/\w'.tape=w.tape/\w'.output=w.output/\w.drawn<=w'.drawn
theorem Ext.refl(w:World):Ext w w:=⟨fun _ _=>rfl,a8F _,rfl,rfl,rfl,a8F _⟩
theorem Ext.trans{a b c:World}(h:Ext a b)(k:Ext b c):Ext a c:=
 ⟨fun i hi=>(k.block i (a6R hi h.size)).trans (h.block i hi),a0N h.size k.size,
  k.same.1.trans h.same.1,k.same.2.1.trans h.same.2.1,k.same.2.2.1.trans h.same.2.2.1,a0N h.same.2.2.2 k.same.2.2.2⟩
theorem Ext.cell{w u:World}(h:Ext w u){a:Addr}{v:Value}(hc:w.cell? a=some v):u.cell? a=some v:=by
 have hb:=World.block_lt_of_cell? w _ hc
 have e:u.cell? a=w.cell? a:=by simp only[World.cell?,h.block _ hb]
 rw[e];exact hc
theorem Ext.EC{w u:World}(h:Ext w u){a:Addr}{o:Option Value}(hc:w.cell? a=o)(hs:o.isSome=true):u.cell? a=o:=by
 obtain⟨v,rfl⟩:=Option.isSome_iff_exists.1 hs;exact h.cell hc
theorem Ext.heap{w u:World}(h:Ext w u){b:Nat}{o:Obj}(hb:w.heap[b]? =some o):u.heap[b]? =some o:=by
 rw[h.block b (Vw hb)];exact hb
theorem Ext.alloc(w:World)(o:Obj):Ext w (w.alloc o):=by
 refine⟨fun b hb=>?_,by simp,rfl,rfl,rfl,a8F _⟩
 show(w.heap.push o)[b]? =_
 rw[Array.getElem?_push,if_neg (by omega)]
theorem Ext.drew(w:World):Ext w w.drew:=⟨fun _ _=>rfl,a8F _,rfl,rfl,rfl,Nat.le_succ _⟩
theorem c0E(a:Act)(d:Nat)(v:Value)(t:Nat)(hd:d<a.tmps.size):
 (a.put (some d) v).tmps.getD t undef=if d=t then v else a.tmps.getD t undef:=by
 simp only[Act.put,a3E,Array.getElem?_setIfInBounds];split
 ·subst_vars;simp
 ·rfl
theorem Z7.set{E:En}{n:Nat}{ψ:Pl}{s:St}{a:Act}{w:World}(h:Z7 E n ψ s a w){d:Nat}(hd:d<n){x:AV}{v:Value}
 (hx:ZL (Im E ψ s.hp) ψ s.hp w x v):Z7 E n ψ (s.set d x) (a.put (some d) v) w:=by
 refine {h with size:=by simp[Act.put,h.size],defers:=h.defers,frame:=fun t=>?_};rw[St.WW,c0E a d v t (by rw[h.size];exact hd)];split
 ·exact hx
 ·exact h.frame t
theorem Z7.put{E:En}{n:Nat}{ψ:Pl}{s:St}{a:Act}{w:World}(h:Z7 E n ψ s a w){d:Option Nat}(hd:∀i,d=some i->i<n){x:AV}{v:Value}
 (hx:ZL (Im E ψ s.hp) ψ s.hp w x v):Z7 E n ψ (s.put d x) (a.put d v) w:=by
 cases d with
 |none=>exact h
 |some d=>exact h.set (hd d rfl) hx
theorem cP.mono{A A':Nat->Prop}{w w':World}{sz:Nat}{xs:List (List IV)}{b:Nat}{k:Nat×Nat}(h:cP A w sz xs b k)
 (hA:∀b,b<w.heap.size->A b->A' b) (hw:∀b,b<w.heap.size->A b->w'.heap[b]? =w.heap[b]?) (hb:w'.heap[b]? =w.heap[b]?):cP A' w' sz xs b k:=by
 obtain⟨c,e,h1,h2,h3,h4⟩:=h;exact⟨c,e,by rw[hb];exact h1,h2,h3,fun i j x hx=>(h4 i j x hx).mono hA hw⟩
theorem SZ.mono{A A':Nat->Prop}{w w':World}{sz:Nat}{xs:List (List IV)}{p:Option (Nat×(Nat×Nat))}{v:Value}(h:SZ A w sz xs p v)
 (hA:∀b,b<w.heap.size->A b->A' b) (hw:∀b,b<w.heap.size->A b->w'.heap[b]? =w.heap[b]?) (hb:∀b q,p=some (b,q)->w'.heap[b]? =w.heap[b]?):SZ A' w' sz xs p v:=by
 obtain⟨h0,h⟩:=h;refine⟨h0,?_⟩
 rcases h with h|⟨b,k,cap,a,h1,h2,h3,h4,h5,h6,h7⟩
 ·exact .inl h
 ·exact .inr ⟨b,k,cap,a,h1,h2,h3,h4,h5,h6,h7.mono hA hw (hb b k h1)⟩
theorem Xw.mono{A A':Nat->Prop}{w w':World}{sk:Sk}{g:List Value->Option (List IV)}{es:Array MapEntry}(h:Xw A w sk g es)
 (hA:∀b,b<w.heap.size->A b->A' b) (hw:∀b,b<w.heap.size->A b->w'.heap[b]? =w.heap[b]?):Xw A' w' sk g es:=by
 obtain⟨m1,m2,m3,m4⟩:=h;refine⟨m1,m2,m3,fun k c hg=>?_⟩;obtain⟨e,he,h5,h6,h7⟩:=m4 k c hg;exact⟨e,he,h5,h6,fun i x hx=>(h7 i x hx).mono hA hw⟩
theorem WU.move{A A':Nat->Prop}{ψ ZF:Pl}{H H':Hp}{w w':World}{id:Nat}{o:Ob}(h:WU A ψ H w id o)(Nh:(∀cs,o≠ .box cs)/\∀Z vs cs,o≠ .gh Z vs cs)
 (hA:∀b,b<w.heap.size->A b->A' b) (hw:∀b,b<w.heap.size->A b->w'.heap[b]? =w.heap[b]?)
 (VY:ZF id=ψ id/\∀b,ψ.sub id b->ZF.sub id b) (hb:∀b,ZZ ψ id b->w'.heap[b]? =w.heap[b]?):WU A' ZF H' w' id o:=by
 obtain⟨VY,hs⟩:=VY
 have Ts:∀{b k},ψ id=some (b,k)->w'.heap[b]? =w.heap[b]? :=fun e=>hb _ (.inl ⟨_,e⟩)
 have Dq:∀{b},ψ.sub id b->w'.heap[b]? =w.heap[b]? :=fun e=>hb _ (.inr e)
 cases o with
 |box cs=>exact absurd rfl (Nh.1 cs)
 |gh Z vs cs=>exact absurd rfl (Nh.2 Z vs cs)
 |list sz xs=>
  obtain⟨h0,h⟩:=h;refine⟨h0,?_⟩
  rcases h with⟨h1,h2⟩|⟨b,k,c,e,h1,h2,h3,SX,h4⟩
  ·exact .inl ⟨by rw[VY];exact h1,h2⟩
  ·exact .inr ⟨b,k,c,e,by rw[VY];exact h1,by rw[Ts h1];exact h2,h3,SX,fun i j x hx=>(h4 i j x hx).mono hA hw⟩
 |map sk g=>
  obtain⟨b,es,clock,h1,h2,h3,m⟩:=h;exact⟨b,es,clock,by rw[VY];exact h1,by rw[Ts h1];exact h2,h3,m.mono hA hw⟩
 |WE sk g n kk=>
  obtain⟨b,es,clock,h1,h2,h3,m,h4⟩:=h;exact⟨b,es,clock,by rw[VY];exact h1,by rw[Ts h1];exact h2,h3,m.mono hA hw,h4⟩
 |YN org sz xs=>
  obtain⟨h0,h⟩:=h;refine⟨h0,?_⟩
  rcases h with⟨h1,h2⟩|⟨b,k,c,e,h1,h2,h3,SX,h4⟩
  ·exact .inl ⟨by rw[VY];exact h1,h2⟩
  ·exact .inr ⟨b,k,c,e,by rw[VY];exact h1,by rw[Ts h1];exact h2,h3,SX,fun i j x hx=>(h4 i j x hx).mono hA hw⟩
 |YA sk sz g hole=>
  obtain⟨b,es,clock,pl,h1,h2,h3,h4,h5,h6,h7,h8,h9,UI,Tl⟩:=h;refine⟨b,es,clock,pl,by rw[VY];exact h1,by rw[Ts h1];exact h2,h3,h4,h5,h6,h7,h8,fun k xs hg=>?_,fun k xs b' q g1 g2=>hs _ (UI k xs b' q g1 g2),Tl⟩
  obtain⟨e,g1,g2,g3⟩:=h9 k xs hg;exact⟨e,g1,g2,g3.mono hA hw fun b' q hq=>Dq (UI k xs b' q hg hq)⟩
 |ZI sz xs hole=>
  obtain⟨h0,b,k,c,e,pl,h1,h2,h3,h4,h5,h6,h7⟩:=h
  exact⟨h0,b,k,c,e,pl,by rw[VY];exact h1,by rw[Ts h1];exact h2,h3,h4,fun i x g1 g2=>(h5 i x g1 g2).mono hA hw fun b' q hq=>Dq (h6 i x b' q g1 g2 hq),
   fun i x b' q g1 g2 g3=>hs _ (h6 i x b' q g1 g2 g3),h7⟩
 |iter sk g left last=>
  obtain⟨b,m,since,stamps,Yx,h1,h2,h3⟩:=h;refine⟨b,m,since,stamps,Yx,by rw[VY];exact h1,by rw[Ts h1];exact h2,?_⟩
  rcases h3 with h3|⟨bm,es,g1,g2,g3,g4,g5,g6,g7⟩
  ·exact .inl h3
  ·have Z2:=Vw g3;exact .inr ⟨bm,es,g1,hA bm Z2 g2,by rw[hw bm Z2 g2];exact g3,g4,g5,g6.mono hA hw,g7⟩
theorem WU.mono{A A':Nat->Prop}{ψ ZF:Pl}{H H':Hp}{w w':World}{id:Nat}{o:Ob}(h:WU A ψ H w id o)
 (hA:∀b,b<w.heap.size->A b->A' b) (hw:∀b,b<w.heap.size->A b->w'.heap[b]? =w.heap[b]?) (hk:U8 ψ ZF H H')
 (VY:ZF id=ψ id/\∀b,ψ.sub id b->ZF.sub id b) (hb:∀b,ZZ ψ id b->w'.heap[b]? =w.heap[b]?):WU A' ZF H' w' id o:=by
 by_cases Nh:∃cs,o= .box cs
 ·obtain⟨cs,rfl⟩:=Nh;obtain⟨b,c,e,h1,h2,h3,h4⟩:=h;exact⟨b,c,e,by rw[VY.1];exact h1,by rw[hb _ (.inl ⟨_,h1⟩)];exact h2,h3,fun i x hx=>(h4 i x hx).mono hA hw hk⟩
 ·by_cases hgh:∃Z vs cs,o= .gh Z vs cs
  ·obtain⟨Z,vs,cs,rfl⟩:=hgh;obtain⟨h1,h2,h3,h4⟩:=h;exact⟨by rw[VY.1];exact h1,h2.mono hA (fun b hb=>VY.2 b hb) hw (fun b h=>hb b (.inr h)),h3,fun i x hx=>(h4 i x hx).mono hA hw hk⟩
  ·exact h.move ⟨fun cs e=>Nh ⟨cs,e⟩,fun Z vs cs e=>hgh ⟨Z,vs,cs,e⟩⟩ hA hw VY hb
theorem WU.lt{A:Nat->Prop}{ψ:Pl}{H:Hp}{w:World}{id:Nat}{o:Ob}(h:WU A ψ H w id o){b:Nat}{k:Nat×Nat}(hb:ψ id=some (b,k)):b<w.heap.size:=by
 cases o with
 |box cs=>obtain⟨b',c,e,h1,h2,_⟩:=h;rw[h1]at hb;cases hb;exact Vw h2
 |list sz xs=>
  rcases h.2 with⟨h1,_⟩|⟨b',k',c,e,h1,h2,_⟩
  ·rw[h1]at hb;cases hb
  ·rw[h1]at hb;cases hb;exact Vw h2
 |map sk g=>obtain⟨b',es,cl,h1,h2,_⟩:=h;rw[h1]at hb;cases hb;exact Vw h2
 |WE sk g n kk=>obtain⟨b',es,cl,h1,h2,_⟩:=h;rw[h1]at hb;cases hb;exact Vw h2
 |YN org sz xs=>
  rcases h.2 with⟨h1,_⟩|⟨b',k',c,e,h1,h2,_⟩
  ·rw[h1]at hb;cases hb
  ·rw[h1]at hb;cases hb;exact Vw h2
 |YA sk sz g hole=>obtain⟨b',es,cl,pl,h1,h2,_⟩:=h;rw[h1]at hb;cases hb;exact Vw h2
 |ZI sz xs hole=>obtain⟨_,b',k',c,e,pl,h1,h2,_⟩:=h;rw[h1]at hb;cases hb;exact Vw h2
 |iter sk g left last=>obtain⟨b',m,si,st,la,h1,h2,_⟩:=h;rw[h1]at hb;cases hb;exact Vw h2
 |gh Z vs cs=>obtain⟨h1,_⟩:=h;rw[h1]at hb;cases hb
theorem Z7.lt{E:En}{n:Nat}{ψ:Pl}{s:St}{a:Act}{w:World}(h:Z7 E n ψ s a w){id b:Nat}{o:Ob}(ho:look s.hp id=some o)(hb:ZZ ψ id b):b<w.heap.size:=by
 rcases hb with⟨k,hb⟩|hb
 ·exact(h.YC id o ho).lt hb
 ·exact(h.YU id o b ho hb).2.1
theorem Ug.ext{ψ:Pl}{H:Hp}{w w':World}(h:Ug ψ H w)(hs:w.heap.size<=w'.heap.size):Ug ψ H w':=fun id o b ho hb=>by
 obtain⟨h1,h2,h3⟩:=h id o b ho hb;exact⟨h1,a6R h2 hs,h3⟩
theorem Z7.ext{E:En}{n:Nat}{ψ:Pl}{s:St}{a:Act}{w w':World}(h:Z7 E n ψ s a w)(hx:Ext w w'):Z7 E n ψ s a w':=by
 have hA:∀b,b<w.heap.size->Im E ψ s.hp b->Im E ψ s.hp b:=fun _ _ h=>h
 have hw:∀b,b<w.heap.size->Im E ψ s.hp b->w'.heap[b]? =w.heap[b]? :=fun b hb _=>hx.block b hb
 refine {h with defers:=h.defers.mono hA hw,frame:=fun t=>(h.frame t).mono hA hw (U8.refl _ _),YC:=fun id o ho=>?_,YU:=h.YU.ext hx.size,old:=fun b hb hm=>?_,grow:=?_,same:=?_}
 ·exact(h.YC id o ho).mono hA hw (U8.refl _ _) ⟨rfl,fun _ h=>h⟩ fun b hb=>hx.block b (h.lt ho hb)
 ·rw[hx.block b (a6R hb h.grow)];exact h.old b hb hm
 ·exact a0N h.grow hx.size
 ·exact⟨hx.same.1.trans h.same.1,hx.same.2.1.trans h.same.2.1,hx.same.2.2.1.trans h.same.2.2.1,a0N h.same.2.2.2 hx.same.2.2.2⟩
/-! ### References to an object are let go. -/
def Z3.of(p:Nat->Bool):Z3->Bool
 | .ptr id _=>p id
 | .val _=>false
def AV.kc(p:Nat->Bool):AV->AV
 | .sl id sz lo len=>if p id then .junk else .sl id sz lo len
 | .ptr id off=>if p id then .junk else .ptr id off
 | .ep id sz i off=>if p id then .junk else .ep id sz i off
 | .mpr id=>if p id then .junk else .mpr id
 | .fn f a b=>if a.any (Z3.of p)||b.any (Z3.of p)then .junk else .fn f a b
 | .iv x=> .iv x
 | .nil sz=> .nil sz
 | .un=> .un
 | .agg _=> .junk
 | .Zp _=> .junk
 | .junk=> .junk
def AV.Xt:AV->Option IV
 | .iv x=>some x
 | .nil sz=>some (.Z6 sz [])
 | _=>none
def Sq:List AV->Option (List IV)
 | []=>some []
 |x::r=>match x.Xt with
  |some y=>(Sq r).map fun l=>y::l
  |none=>none
def Z3.fc(id:Nat)(o:Ob):Z3->Z3
 | .ptr j off=>if j=id then match o with
  | .box cs=>match Sq cs with
   |some l=> .val (.pt (l.drop off))
   |none=> .ptr j off
  | _=> .ptr j off
  else .ptr j off
 | .val x=> .val x
def AV.fc(id:Nat)(o:Ob):AV->AV
 | .sl j sz lo len=>if j=id then match o with
  | .list _ xs=> .iv (.Z6 sz ((xs.drop lo).take len))
  | .ZI Zz xs none=> .iv (.Z6 1 (((xs.map fun x=>[IV.Z6 Zz x]).drop lo).take len))
  | _=> .junk
  else .sl j sz lo len
 | .ep j sz i off=>if j=id then match o with
  | .list _ xs=> .iv (.pt ((xs.getD i []).drop off))
  | _=> .junk
  else .ep j sz i off
 | .mpr j=>if j=id then match o with
  | .map sk g=> .iv (.mp sk g)
  | .YA sk sz g none=> .iv (.mp sk fun k=>(g k).map fun xs=>[IV.Z6 sz xs])
  | _=> .junk
  else .mpr j
 | .ptr j off=>if j=id then match o with
  | .box cs=>match Sq cs with
   |some l=> .iv (.pt (l.drop off))
   |none=> .junk
  | _=> .junk
  else .ptr j off
 | .fn f a b=> .fn f (a.map (Z3.fc id o)) (b.map (Z3.fc id o))
 |x=>x
def AV.Il(f:AV->AV):AV->AV
 | .agg cs=> .agg (cs.map f)
 |x=>f x
def AV.ZS(f:AV->AV):AV->AV
 | .Zp vs=> .Zp (vs.map (AV.Il f))
 | .agg cs=> .agg (cs.map f)
 |x=>f x
def Ob.ZS(f:AV->AV):Ob->Ob
 | .box cs=> .box (cs.map f)
 | .gh Z vs cs=> .gh Z vs (cs.map (AV.ZS f))
 |o=>o
def St.ZS(f:AV->AV)(s:St):St:=⟨s.fr.map fun(t,x)=>(t,x.ZS f),s.hp.map fun(id,o)=>(id,o.ZS f)⟩
def St.drop(id:Nat)(s:St):St:=match look s.hp id with
 |none=>s
 |some o=>{s.ZS (fun x=>(x.fc id o).kc (· ==id))with hp:=(s.ZS fun x=>(x.fc id o).kc (· ==id)).hp.filter (·.1 != id)}
theorem c2E{α β:Type}(f:α->β)(l:List (Nat×α))(k:Nat):look (l.map fun(t,x)=>(t,f x)) k=(look l k).map f:=by
 induction l with
 |nil=>rfl
 |cons p l ih=>obtain⟨j,x⟩:=p;simp only[a0I,look];split<;>simp[ih]
theorem G0{α:Type}(l:List (Nat×α))(id k:Nat):look (l.filter (·.1 != id)) k=if k=id then none else look l k:=by
 induction l with
 |nil=>simp[look]
 |cons p l ih=>
  obtain⟨j,x⟩:=p
  by_cases hj:j=id
  ·subst hj;rw[List.filter_cons_of_neg (by simp),ih];simp only[look]
   by_cases hk:k=j
   ·simp[hk]
   ·simp[hk,Ne.symm hk]
  ·rw[List.filter_cons_of_pos (by simpa using hj)];simp only[look,ih]
   by_cases hk:j=k
   ·subst hk;simp[hj]
   ·simp[hk]
def c4E(A A':Nat->Prop)(ψ ZF:Pl)(H H':Hp)(w w':World)(f:AV->AV):Prop:=∀x v,ZL A ψ H w x v->(∀cs,x≠ .agg cs)->(∀cs,x≠ .Zp cs)->ZL A' ZF H' w' (f x) v
theorem ZL.ZS{A A':Nat->Prop}{ψ ZF:Pl}{H H':Hp}{w w':World}{f:AV->AV}(hf:c4E A A' ψ ZF H H' w w' f)
 (L9:∀cs,f (.agg cs)= .junk) (Ng:∀cs,f (.Zp cs)= .junk) {x:AV} {v:Value} (h:ZL A ψ H w x v):ZL A' ZF H' w' (x.ZS f) v:=by
 have hc:∀{x v},ZL A ψ H w x v->ZL A' ZF H' w' (f x) v:=by
  intro x v h
  cases x with
  |agg cs=>rw[L9];exact .junk v
  |Zp cs=>rw[Ng];exact .junk v
  | _=>exact hf _ _ h (by simp) (by simp)
 have h1:∀{x v},ZL A ψ H w x v->ZL A' ZF H' w' (x.Il f) v:=by
  intro x v h
  cases h with
  |agg cs vs hl h=>
   refine .agg _ _ (by simpa using hl) fun i c hi=>?_
   rw[a1C]at hi
   cases V9:cs[i]? with
   |none=>rw[V9]at hi;cases hi
   |some c0=>rw[V9]at hi;cases hi;exact hc (h i c0 V9)
  |Zp cs vs hl h=>simp only[AV.Il,Ng];exact .junk _
  |iv x v h=>exact hc (.iv x v h)
  |nil sz=>exact hc (.nil sz)
  |UR id sz o n ho he hb=>exact hc (.UR id sz o n ho he hb)
  |sl id sz lo len b k cap a o n ho he hx hb ha Vc hk hm=>exact hc (.sl id sz lo len b k cap a o n ho he hx hb ha Vc hk hm)
  |ptr id off b k o ho hb=>exact hc (.ptr id off b k o ho hb)
  |ep id sz i off b k o n ho he hi hb=>exact hc (.ep id sz i off b k o n ho he hi hb)
  |mpr id b k o ho hb=>exact hc (.mpr id b k o ho hb)
  |fn g first caps vf vc hf Cg h1 h2=>exact hc (.fn g first caps vf vc hf Cg h1 h2)
  |un=>exact hc .un
  |junk v=>exact hc (.junk v)
 cases h with
 |Zp cs vs hl h=>
  refine .Zp _ _ (by simpa using hl) fun i c hi=>?_
  rw[a1C]at hi
  cases V9:cs[i]? with
  |none=>rw[V9]at hi;cases hi
  |some c0=>rw[V9]at hi;cases hi;exact h1 (h i c0 V9)
 |agg cs vs hl h=>exact h1 (.agg cs vs hl h)
 |iv x v h=>exact hc (.iv x v h)
 |nil sz=>exact hc (.nil sz)
 |UR id sz o n ho he hb=>exact hc (.UR id sz o n ho he hb)
 |sl id sz lo len b k cap a o n ho he hx hb ha Vc hk hm=>exact hc (.sl id sz lo len b k cap a o n ho he hx hb ha Vc hk hm)
 |ptr id off b k o ho hb=>exact hc (.ptr id off b k o ho hb)
 |ep id sz i off b k o n ho he hi hb=>exact hc (.ep id sz i off b k o n ho he hi hb)
 |mpr id b k o ho hb=>exact hc (.mpr id b k o ho hb)
 |fn g first caps vf vc hf Cg h1 h2=>exact hc (.fn g first caps vf vc hf Cg h1 h2)
 |un=>exact hc .un
 |junk v=>exact hc (.junk v)
def c5E(p:Nat->Bool)(ψ ZF:Pl)(H H':Hp):Prop:=∀id o,p id=false->look H id=some o->(∃o',look H' id=some o'/\o.le o')/\ZF id=ψ id
theorem c6E{A A':Nat->Prop}{ψ ZF:Pl}{H H':Hp}{w w':World}{p:Nat->Bool}(hA:∀b,b<w.heap.size->A b->A' b)
 (hw:∀b,b<w.heap.size->A b->w'.heap[b]? =w.heap[b]?) (hk:c5E p ψ ZF H H'):c4E A A' ψ ZF H H' w w' (AV.kc p):=by
 intro x v h _ _
 have EB:∀{id sz n o},p id=false->look H id=some o->o.dim=some (sz,n)->∃o' n',look H' id=some o'/\o'.dim=some (sz,n')/\n<=n':=by
  intro id sz n o hp ho he;obtain⟨⟨o',h1,h2⟩,_⟩:=hk id _ hp ho;obtain⟨n',h3,h4⟩:=h2 sz n he;exact⟨o',n',h1,h3,h4⟩
 have WT:∀{c:Z3} {v:Value},c.of p=false->W9 A ψ H w c v->W9 A' ZF H' w' c v:=by
  intro c v hp h
  cases h with
  |ptr id off b k o ho hb=>
   obtain⟨⟨o',h1,_⟩,h2⟩:=hk id o hp ho;exact .ptr id off b k o' h1 (by rw[h2];exact hb)
  |val x v h1=>exact .val x v (h1.mono hA hw)
 cases h with
 |iv x v h=>exact .iv x v (h.mono hA hw)
 |nil sz=>exact .nil sz
 |UR id sz o n ho he hb=>
  simp only[AV.kc];split
  ·exact .junk _
  ·rename_i hp
   have hp:p id=false:=by simpa using hp
   obtain⟨o',n',h1,h2,_⟩:=EB hp ho he;exact .UR id sz o' n' h1 h2 (by rw[(hk id _ hp ho).2];exact hb)
 |sl id sz lo len b k cap a o n ho he hx hb ha Vc SS hm=>
  simp only[AV.kc];split
  ·exact .junk _
  ·rename_i hp
   have hp:p id=false:=by simpa using hp
   obtain⟨o',n',h1,h2,h3⟩:=EB hp ho he;exact .sl id sz lo len b k cap a o' n' h1 h2 (a0N hx h3) (by rw[(hk id _ hp ho).2];exact hb) ha Vc SS hm
 |ptr id off b k o ho hb=>
  simp only[AV.kc];split
  ·exact .junk _
  ·rename_i hp
   have hp:p id=false:=by simpa using hp
   obtain⟨⟨o',h1,_⟩,h2⟩:=hk id o hp ho;exact .ptr id off b k o' h1 (by rw[h2];exact hb)
 |ep id sz i off b k o n ho he hi hb=>
  simp only[AV.kc];split
  ·exact .junk _
  ·rename_i hp
   have hp:p id=false:=by simpa using hp
   obtain⟨o',n',h1,h2,h3⟩:=EB hp ho he;exact .ep id sz i off b k o' n' h1 h2 (a6R hi h3) (by rw[(hk id _ hp ho).2];exact hb)
 |mpr id b k o ho hb=>
  simp only[AV.kc];split
  ·exact .junk _
  ·rename_i hp
   have hp:p id=false:=by simpa using hp
   obtain⟨⟨o',h1,_⟩,h2⟩:=hk id o hp ho;exact .mpr id b k o' h1 (by rw[h2];exact hb)
 |fn g first caps vf vc hf hc h1 h2=>
  simp only[AV.kc];split
  ·exact .junk _
  ·rename_i hp;simp only[b6w,b9G,not_or,not_exists,not_and,c8v]at hp;exact .fn g first caps vf vc hf hc (fun i c h=>WT (hp.1 c (a6y h)) (h1 i c h)) (fun i c h=>WT (hp.2 c (a6y h)) (h2 i c h))
 |agg cs vs hl h=>exact .junk _
 |Zp cs vs hl h=>exact .junk _
 |un=>exact .un
 |junk v=>exact .junk _
section
variable{E:En}{n:Nat}{ψ:Pl}{s:St}{a:Act}{w:World}
theorem St.TM(f:AV->AV)(hf:f .junk= .junk)(t:Nat):(s.ZS f).get t=(s.get t).ZS f:=by
 simp only[St.get,St.ZS];rw[c2E (AV.ZS f)]
 cases look s.fr t<;>simp[AV.ZS,hf]
theorem GQ(f:AV->AV)(k:Nat):look (s.ZS f).hp k=(look s.hp k).map (Ob.ZS f):=by
 simp only[St.ZS];rw[c2E (Ob.ZS f)]
theorem d8z(f:AV->AV)(Z:GZ)(vs:List Value)(cs:List AV):(Ob.gh Z vs cs).ZS f= .gh Z vs (cs.map (AV.ZS f)):=rfl
theorem Ob.DZ(f:AV->AV)(o:Ob):(o.ZS f).dim=o.dim:=by cases o<;>rfl
theorem Ob.TL(f:AV->AV)(o:Ob)(id:Nat):(o.ZS f).org id=o.org id:=by cases o<;>rfl
theorem Ob.Vv(f:AV->AV)(o:Ob):(o.ZS f).multi=o.multi:=by cases o<;>rfl
theorem Ob.R8(f:AV->AV)(o:Ob):o.le (o.ZS f):=fun _ n h=>⟨n,by rw[Ob.DZ];exact h,a8F _⟩
theorem d9z{α:Type}(xs:List (List α))(lo len i j:Nat)(x:α)(h:at2 ((xs.drop lo).take len) i j=some x):at2 xs (lo+i) j=some x:=by
 simp only[at2,a8R,a8M]at h⊢;split at h
 ·exact h
 ·cases h
theorem IE{α:Type}{xs:List (List α)}{i j:Nat}{x:α}(h:at2 xs i j=some x):∃r,xs[i]? =some r/\r[j]? =some x:=by
 simp only[at2]at h
 cases hr:xs[i]? with
 |none=>rw[hr]at h;cases h
 |some r=>rw[hr]at h;exact⟨r,rfl,h⟩
theorem mX{α:Type}{xs:List (List α)}{i j:Nat}{r:List α}{x:α}(h1:xs[i]? =some r)(h2:r[j]? =some x):at2 xs i j=some x:=by
 simp[at2,h1,h2]
theorem d2A{w:World}{b:Nat}{c:Array Value}{e:TypeId}{f:Nat×Nat}(h:w.heap[b]? =some (.cells c e f))(o:Nat):w.cell? ⟨b,o,none⟩=c[o]? :=by
 simp[World.cell?,h]
theorem G2{w:World}{b:Nat}{c:Array Value}{e:TypeId}{f:Nat×Nat}(h:w.heap[b]? =some (.cells c e f)){o:Nat}(ho:o<c.size):
 w.cell? ⟨b,o,none⟩=some (c.getD o undef):=by
 rw[d2A h];simp[ho]
theorem d4A{A A':Nat->Prop}{H:Hp}{id sz:Nat}{xs:List (List IV)}(h:WU A ψ H w id (.list sz xs))(hA:∀b,b<w.heap.size->A b->A' b)
 (XZ:∀b k,ψ id=some (b,k)->A' b) {lo len cap:Nat} {a:Addr} {b:Nat} {k:Nat×Nat} (hb:ψ id=some (b,k)) (ha:0<cap->a=⟨b,k.1+lo*sz,none⟩) (Vc:len<=cap)
 (hx:lo+len<=xs.length):Yq A' w (.Z6 sz ((xs.drop lo).take len)) (.slice (some a) len cap):=by
 obtain⟨hs,h⟩:=h
 rcases h with⟨h1,_⟩|⟨b',k',c,e,h1,h2,SX,h3,h4⟩
 ·rw[h1]at hb;cases hb
 rw[h1]at hb;cases hb
 have hlen:((xs.drop lo).take len).length=len:=by simp;omega
 have key:=Yq.Z6 (A:=A') (w:=w) sz ((xs.drop lo).take len) b (k.1+lo*sz) cap a (fun i j=>c.getD (k.1+((lo+i)*sz+j)) undef)
  (fun ZV=>ha (by
   rcases b0q cap with h0|h0
   ·exact absurd (a2S (by omega)) ZV
   ·exact h0))
  (fun x hx=>hs x (b1J (a6U hx))) (by omega)
  (fun i j x Xu=>by
   refine⟨XZ _ _ h1,?_⟩;have UH:=d9z _ _ _ _ _ _ Xu;obtain⟨r,hr,hj⟩:=IE UH;have hi:lo+i<xs.length:=(a5y.1 hr).1
   have hj':j<sz:=by rw[<-hs r (a6y hr)];exact(a5y.1 hj).1
   have hm:(lo+i+1)*sz<=xs.length*sz:=a0G sz (by omega);have e1:(lo+i)*sz=lo*sz+i*sz:=a4N _ _ _
   have e2:(lo+i+1)*sz=(lo+i)*sz+sz:=by rw[a4N];omega
   rw[show k.1+lo*sz+(i*sz+j)=k.1+((lo+i)*sz+j)from by omega]
   exact G2 h2 (by omega))
  (fun i j x Xu=>(h4 _ _ _ (d9z _ _ _ _ _ _ Xu)).mono hA (fun _ _ _=>rfl))
 rw[hlen]at key;exact key
theorem d5A{A A':Nat->Prop}{H:Hp}{id sz:Nat}{xs:List (List IV)}(h:WU A ψ H w id (.list sz xs))(hA:∀b,b<w.heap.size->A b->A' b)
 (XZ:∀b k,ψ id=some (b,k)->A' b) {i off:Nat} {b:Nat} {k:Nat×Nat} (hb:ψ id=some (b,k)) (hi:i<xs.length):
 Yq A' w (.pt ((xs.getD i []).drop off)) (.pointer (some ⟨b,k.1+(i*sz+off),none⟩)):=by
 obtain⟨hs,h⟩:=h
 rcases h with⟨h1,_⟩|⟨b',k',c,e,h1,h2,SX,h3,h4⟩
 ·rw[h1]at hb;cases hb
 rw[h1]at hb;cases hb;have hr:xs[i]? =some xs[i]:=a4G hi
 have hg:xs.getD i []=xs[i]:=by simp[a7V,hr]
 rw[hg];have Ya:=hs xs[i] (d7n hi);refine .pt _ b (k.1+(i*sz+off)) (fun j=>c.getD (k.1+(i*sz+(off+j))) undef) (fun j x hj=>?_) (fun j x hj=>?_)
 ·rw[a8M]at hj;refine⟨XZ _ _ h1,?_⟩
  have hj':off+j<sz:=by rw[<-Ya];exact(a5y.1 hj).1
  have hm:(i+1)*sz<=xs.length*sz:=a0G sz (by omega)
  have e2:(i+1)*sz=i*sz+sz:=by rw[a4N];omega
  rw[show k.1+(i*sz+off)+j=k.1+(i*sz+(off+j))from by omega];exact G2 h2 (by omega)
 ·rw[a8M]at hj;exact(h4 i (off+j) x (mX hr hj)).mono hA (fun _ _ _=>rfl)
theorem d6A{c:Array Value}{i:Nat}(h:i<c.size):c[i]? =some (c.getD i undef):=by
 rw[a3N h];simp[a3E,h]
theorem d7A{A A':Nat->Prop}{H:Hp}{x:AV}{v:Value}{y:IV}(h:ZL A ψ H w x v)(hx:x.Xt=some y)(hA:∀b,b<w.heap.size->A b->A' b):Yq A' w y v:=by
 unfold AV.Xt at hx;split at hx
 ·cases hx;cases h with|iv _ _ h=>exact h.mono hA (fun _ _ _=>rfl)
 ·cases hx;cases h;exact .V5 _
 ·cases hx
theorem d8A:∀{cs:List AV} {l:List IV},Sq cs=some l->l.length=cs.length/\∀(i:Nat) (y:IV),l[i]? =some y->∃x:AV,cs[i]? =some x/\x.Xt=some y
 | [],l,h=>by simp only[Sq,a3y]at h;subst h;simp
 |x::r,l,h=>by
  simp only[Sq]at h;split at h
  ·rename_i y hy
   cases hr:Sq r with
   |none=>rw[hr]at h;cases h
   |some l'=>
    rw[hr]at h;simp only[a8H,a3y]at h;subst h;obtain⟨g1,g2⟩:=d8A hr;refine⟨by simp[g1],fun i z hz=>?_⟩
    cases i with
    |zero=>simp only[a0F,a3y]at hz;subst hz;exact⟨x,rfl,hy⟩
    |succ i=>simpa using g2 i z (by simpa using hz)
  ·cases h
theorem d9A{A A':Nat->Prop}{H:Hp}{id:Nat}{cs:List AV}{l:List IV}(h:WU A ψ H w id (.box cs))(hl:Sq cs=some l)(hA:∀b,b<w.heap.size->A b->A' b)
 (XZ:∀b k,ψ id=some (b,k)->A' b) {off b:Nat} {k:Nat×Nat} (hb:ψ id=some (b,k)):Yq A' w (.pt (l.drop off)) (.pointer (some ⟨b,off,none⟩)):=by
 obtain⟨b',c,e,h1,h2,h3,h4⟩:=h;rw[h1]at hb;cases hb;obtain⟨g1,g2⟩:=d8A hl
 refine .pt _ b off (fun i=>c.getD (off+i) undef) (fun i y hy=>?_) (fun i y hy=>?_)<;>rw[a8M]at hy<;>obtain⟨x,hx,R9⟩:=g2 _ y hy
 ·refine⟨XZ _ _ h1,G2 h2 ?_⟩;rw[h3];exact(a5y.1 hx).1
 ·exact d7A (h4 _ x hx) R9 hA
theorem d0B{A A':Nat->Prop}{b clock:Nat}{es:Array MapEntry}{sk:Sk}{g:List Value->Option (List IV)}(hh:w.heap[b]? =some (.map es clock))(hb:Wm es clock)(h:Xw A w sk g es)
 (hA:∀b,b<w.heap.size->A b->A' b) (XZ:A' b):Yq A' w (.mp sk g) (.map (some b)):=by
 obtain⟨m1,m2,m3,m4⟩:=h
 classical
 have:∀k,∃e:MapEntry,∀c,g k=some c->e∈es.toList/\X0 e.key=k/\e.val.cells.size=c.length/\∀i x,c[i]? =some x->Yq A w x (e.val.cells.getD i undef):=by
  intro k
  cases hg:g k with
  |none=>exact⟨⟨undef,undef,0⟩,fun c h=>by cases h⟩
  |some c=>obtain⟨e,h⟩:=m4 k c hg;exact⟨e,fun c' hc=>by cases hc;exact h⟩
 refine .mp sk g b clock es (fun k i=>(b7G (this k)).val.cells.getD i undef) XZ hh m1 m2 m3 hb (fun k c hg=>?_) (fun k c hg i x hx=>?_)<;>
  obtain⟨h1,h2,h3,h4⟩:=b2K (this k) c hg
 ·refine⟨_,h1,h2,h3,fun i x hx=>?_⟩
  have hi:i<(b7G (this k)).val.cells.size:=by rw[h3];exact(a5y.1 hx).1
  exact d6A hi
 ·exact(h4 i x hx).mono hA (fun _ _ _=>rfl)
theorem d1B{A A':Nat->Prop}{sz:Nat}{xs:List (List IV)}{p:Option (Nat×(Nat×Nat))}{v:Value}(h:SZ A w sz xs p v)(hA:∀b,b<w.heap.size->A b->A' b)
 (XZ:∀b q,p=some (b,q)->A' b):Yq A' w (.Z6 sz xs) v:=by
 obtain⟨hs,⟨_,h2,h3⟩|⟨b,k,cap,a,h1,h2,h3,h4,h5,h6,c,e,g1,g2,g3,g4⟩⟩:=h
 ·subst h2;subst h3;exact .V5 sz
 ·subst h2
  have bound:∀{i j x},at2 xs i j=some x->i*sz+j<xs.length*sz:=by
   intro i j x Xu;obtain⟨r,hr,hj⟩:=IE Xu;have hi:i<xs.length:=(a5y.1 hr).1
   have hj':j<sz:=by rw[<-hs r (a6y hr)];exact(a5y.1 hj).1
   have hm:(i+1)*sz<=xs.length*sz:=a0G sz (by omega)
   have e2:(i+1)*sz=i*sz+sz:=by rw[a4N];omega
   omega
  refine Yq.Z6 sz xs b k.1 cap a (fun i j=>c.getD (k.1+(i*sz+j)) undef) (fun ZV=>h3 ?_) hs h4 (fun i j x Xu=>⟨XZ _ _ h1,?_⟩) (fun i j x Xu=>(g4 i j x Xu).mono hA (fun _ _ _=>rfl))
  ·rcases b0q cap with h0|h0
   ·exact absurd (a2S (by omega)) ZV
   ·exact h0
  ·have:=bound Xu;exact G2 g1 (by omega)
theorem d2B{v:Value}(h:Sz v=false):v.cells= #[v]:=by cases v<;>simp_all[Sz,Value.cells]
theorem d3B{A A':Nat->Prop}{H:Hp}{id sz:Nat}{sk:Sk}{g:List Value->Option (List (List IV))}(h:WU A ψ H w id (.YA sk sz g none))(hA:∀b,b<w.heap.size->A b->A' b)
 (XZ:∀b,ZZ ψ id b->A' b) {b:Nat} {k:Nat×Nat} (hb:ψ id=some (b,k)):Yq A' w (.mp sk fun k=>(g k).map fun xs=>[IV.Z6 sz xs]) (.map (some b)):=by
 obtain⟨b',es,clock,pl,h1,h2,h3,h4,h5,h6,h7,h8,h9,UI,Tl⟩:=h;rw[h1]at hb;cases hb;refine d0B (A:=A') h2 h3 ⟨h4,fun e he=>?_,h6,fun k c hc=>?_⟩ (fun _ _ h=>h) (XZ _ (.inl ⟨_,h1⟩))
 ·rcases h7 e he with h|⟨xs,h⟩
  ·cases h
  ·exact⟨[.Z6 sz xs],by simp[h]⟩
 ·cases hg:g k with
  |none=>simp only[hg]at hc;cases hc
  |some xs=>
   simp only[hg]at hc;simp only[a8H,a3y]at hc;subst hc;obtain⟨e,g1,g2,g3⟩:=h9 k xs hg;have hc:=d2B ((h4 e g1).2.trans h5);refine⟨e,g1,g2,by rw[hc];rfl,fun i x hx=>?_⟩
   cases i with
   |zero=>
    simp only[a0F,a3y]at hx;subst hx;rw[hc]
    exact d1B g3 hA fun b' q hq=>XZ _ (.inr (UI k xs b' q hg hq))
   |succ i=>simp at hx
theorem d4B{A A':Nat->Prop}{H:Hp}{id sz:Nat}{xs:List (List (List IV))}(h:WU A ψ H w id (.ZI sz xs none))(hA:∀b,b<w.heap.size->A b->A' b)
 (XZ:∀b,ZZ ψ id b->A' b) {lo len cap:Nat} {a:Addr} {b:Nat} {k:Nat×Nat} (hb:ψ id=some (b,k)) (ha:0<cap->a=⟨b,k.1+lo*1,none⟩) (Vc:len<=cap)
 (hx:lo+len<=xs.length):Yq A' w (.Z6 1 (((xs.map fun x=>[IV.Z6 sz x]).drop lo).take len)) (.slice (some a) len cap):=by
 obtain⟨_,b',k',c,e,pl,h1,h2,h3,h4,h5,h6,h7⟩:=h;rw[h1]at hb;cases hb
 have hlen:(((xs.map fun x=>[IV.Z6 sz x]).drop lo).take len).length=len:=by simp;omega
 have el:∀{i j x},at2 (((xs.map fun x=>[IV.Z6 sz x]).drop lo).take len) i j=some x->∃z,xs[lo+i]? =some z/\j=0/\x= .Z6 sz z:=by
  intro i j x Xu;have UH:=d9z _ _ _ _ _ _ Xu;obtain⟨r,hr,hj⟩:=IE UH;rw[a1C]at hr
  cases hz:xs[lo+i]? with
  |none=>rw[hz]at hr;cases hr
  |some z=>
   rw[hz]at hr;simp only[a8H,a3y]at hr;subst hr
   cases j with
   |zero=>simp only[a0F,a3y]at hj;exact⟨z,rfl,rfl,hj.symm⟩
   |succ j=>simp at hj
 have key:=Yq.Z6 (A:=A') (w:=w) 1 (((xs.map fun x=>[IV.Z6 sz x]).drop lo).take len) b (k.1+lo*1) cap a (fun i j=>c.getD (k.1+(lo+i)) undef)
  (fun ZV=>ha (by
   rcases b0q cap with h0|h0
   ·exact absurd (a2S (by omega)) ZV
   ·exact h0))
  (fun x hx=>by
   have:=b1J (a6U hx);obtain⟨z,_,rfl⟩:=a0E.1 this
   rfl) (by omega)
  (fun i j x Xu=>by
   obtain⟨z,g1,rfl,rfl⟩:=el Xu;have hi:lo+i<xs.length:=(a5y.1 g1).1;refine⟨XZ _ (.inl ⟨_,h1⟩),?_⟩;rw[show k.1+lo*1+(i*1+0)=k.1+(lo+i)from by omega]
   exact G2 h2 (by omega))
  (fun i j x Xu=>by
   obtain⟨z,g1,rfl,rfl⟩:=el Xu
   exact d1B (h5 _ z g1 (by simp)) hA fun b' q hq=>XZ _ (.inr (h6 _ z b' q g1 (by simp) hq)))
 rw[hlen]at key;exact key
theorem WU.ZS{A A':Nat->Prop}{H H':Hp}{f:AV->AV}{id:Nat}{o:Ob}(h:WU A ψ H w id o)(hA:∀b,b<w.heap.size->A b->A' b)
 (hf:c4E A A' ψ ψ H H' w w f) (L9:∀cs,f (.agg cs)= .junk) (Ng:∀cs,f (.Zp cs)= .junk):WU A' ψ H' w id (o.ZS f):=by
 cases o with
 |box cs=>
  obtain⟨b,c,e,h1,h2,h3,h4⟩:=h;refine⟨b,c,e,h1,h2,by simpa using h3,fun i x hx=>?_⟩;rw[a1C]at hx
  cases V9:cs[i]? with
  |none=>rw[V9]at hx;cases hx
  |some c0=>
   rw[V9]at hx;cases hx;have h5:=h4 i c0 V9
   cases c0 with
   |agg l=>rw[L9];exact .junk _
   |Zp l=>rw[Ng];exact .junk _
   | _=>exact hf _ _ h5 (by simp) (by simp)
 |list sz xs=>
  obtain⟨h0,ho⟩:=h;refine⟨h0,?_⟩
  rcases ho with ho|⟨b,k,c,e,h1,h2,h3,SX,h4⟩
  ·exact .inl ho
  ·exact .inr ⟨b,k,c,e,h1,h2,h3,SX,fun i j x hx=>(h4 i j x hx).mono hA (fun _ _ _=>rfl)⟩
 |map sk g=>obtain⟨b,es,clock,h1,h2,h3,m⟩:=h;exact⟨b,es,clock,h1,h2,h3,m.mono hA (fun _ _ _=>rfl)⟩
 |WE sk g n kk=>obtain⟨b,es,clock,h1,h2,h3,m,h4⟩:=h;exact⟨b,es,clock,h1,h2,h3,m.mono hA (fun _ _ _=>rfl),h4⟩
 |YN org sz xs=>
  obtain⟨h0,ho⟩:=h;refine⟨h0,?_⟩
  rcases ho with ho|⟨b,k,c,e,h1,h2,h3,SX,h4⟩
  ·exact .inl ho
  ·exact .inr ⟨b,k,c,e,h1,h2,h3,SX,fun i j x hx=>(h4 i j x hx).mono hA (fun _ _ _=>rfl)⟩
 |YA sk sz g hole=>
  obtain⟨b,es,clock,pl,h1,h2,h3,h4,h5,h6,h7,h8,h9,UI,Tl⟩:=h;refine⟨b,es,clock,pl,h1,h2,h3,h4,h5,h6,h7,h8,fun k xs hg=>?_,UI,Tl⟩;obtain⟨e,g1,g2,g3⟩:=h9 k xs hg;exact⟨e,g1,g2,g3.mono hA (fun _ _ _=>rfl) fun _ _ _=>rfl⟩
 |ZI sz xs hole=>
  obtain⟨h0,b,k,c,e,pl,h1,h2,h3,h4,h5,h6,h7⟩:=h;exact⟨h0,b,k,c,e,pl,h1,h2,h3,h4,fun i x g1 g2=>(h5 i x g1 g2).mono hA (fun _ _ _=>rfl) fun _ _ _=>rfl,h6,h7⟩
 |iter sk g left last=>
  obtain⟨b,m,since,stamps,Yx,h1,h2,h3⟩:=h;refine⟨b,m,since,stamps,Yx,h1,h2,?_⟩
  rcases h3 with h3|⟨bm,es,g1,g2,g3,g4,g5,g6,g7⟩
  ·exact .inl h3
  ·exact .inr ⟨bm,es,g1,hA bm (Vw g3) g2,g3,g4,g5,g6.mono hA (fun _ _ _=>rfl),g7⟩
 |gh Z vs cs=>
  obtain⟨h1,h2,h3,h4⟩:=h;refine⟨h1,h2.mono hA (fun _ h=>h) (fun _ _ _=>rfl) (fun _ _=>rfl),by simpa using h3,fun i x hx=>?_⟩;rw[a1C]at hx
  cases V9:cs[i]? with
  |none=>rw[V9]at hx;cases hx
  |some c0=>rw[V9]at hx;cases hx;exact(h4 i c0 V9).ZS hf L9 Ng
theorem Z7.drop(h:Z7 E n ψ s a w){id:Nat}(Vi:id<1000):Z7 E n ψ (s.drop id) a w:=by
 have gen:∀f:AV->AV,f .junk= .junk->(∀cs,f (.agg cs)= .junk)->(∀cs,f (.Zp cs)= .junk)->
  (
   let t:St:={s.ZS f with hp:=(s.ZS f).hp.filter (·.1 != id)}
   c4E (Im E ψ s.hp) (Im E ψ t.hp) ψ ψ s.hp t.hp w w f->Z7 E n ψ t a w):=by
  intro f hj L9 Ng t hf
  have f2T:∀k,look t.hp k=if k=id then none else(look s.hp k).map (Ob.ZS f):=by
   intro k
   show look ((s.ZS f).hp.filter (·.1 != id)) k=_
   rw[G0,GQ]
  have back:∀{k o},look t.hp k=some o->k≠id/\∃o',look s.hp k=some o'/\o=o'.ZS f:=by
   intro k o hk;rw[f2T]at hk;split at hk
   ·cases hk
   ·rename_i ZV
    cases ho:look s.hp k with
    |none=>rw[ho]at hk;cases hk
    |some o'=>rw[ho]at hk;exact⟨ZV,o',rfl,by simpa using hk.symm⟩
  have hA:∀b,b<w.heap.size->Im E ψ s.hp b->Im E ψ t.hp b:=by
   rintro b _ ⟨h1,h2⟩;refine⟨h1,?_⟩;rintro⟨k,o,ho,hq⟩;obtain⟨_,o',XI,_⟩:=back ho;exact h2 ⟨k,o',XI,hq⟩
  refine {size:=h.size,defers:=h.defers.mono hA (fun _ _ _=>rfl),par:=h.par,old:=h.old,grow:=h.grow,same:=h.same,frame:=fun x=>?_,YC:=?_,inj:=?_,own:=?_,YU:=?_}
  ·have e:t.get x=(s.get x).ZS f:=St.TM f hj x;rw[e];exact(h.frame x).ZS hf L9 Ng
  ·intro k o hk;obtain⟨ZV,o',XI,rfl⟩:=back hk;exact(h.YC k o' XI).ZS hA hf L9 Ng
  ·intro i i' o o' b hi Vg hb XH;obtain⟨_,o1,h1,_⟩:=back hi;obtain⟨_,o2,h2,_⟩:=back Vg;exact h.inj i i' o1 o2 b h1 h2 hb XH
  ·intro i o b hi hb;obtain⟨_,o1,h1,rfl⟩:=back hi;rw[Ob.TL];exact h.own i o1 b h1 hb
  ·intro i o b hi hb;obtain⟨_,o1,h1,rfl⟩:=back hi;rw[Ob.Vv];exact h.YU i o1 b h1 hb
 have kb:∀f:AV->AV,c5E (· ==id) ψ ψ s.hp ((s.ZS f).hp.filter (·.1 != id)):=by
  intro f k o hk ho
  have hk:k≠id:=by simpa using hk
  refine⟨⟨o.ZS f,?_,Ob.R8 f o⟩,rfl⟩;rw[G0,GQ,if_neg hk,ho];rfl
 have im:∀f:AV->AV,∀b,b<w.heap.size->Im E ψ s.hp b->Im E ψ ((s.ZS f).hp.filter (·.1 != id)) b:=by
  rintro f b _ ⟨h1,h2⟩;refine⟨h1,?_⟩;rintro⟨k,o,ho,hq⟩;rw[G0,GQ]at ho;split at ho
  ·cases ho
  ·cases XI:look s.hp k with
   |none=>rw[XI]at ho;cases ho
   |some o'=>exact h2 ⟨k,o',XI,hq⟩
 unfold St.drop
 cases ho:look s.hp id with
 |none=>exact h
 |some o=>
  refine gen (fun x=>(x.fc id o).kc (· ==id)) rfl (fun _=>rfl) (fun _=>rfl) ?_
  show c4E (Im E ψ s.hp) (Im E ψ ((s.ZS fun x=>(x.fc id o).kc (· ==id)).hp.filter (·.1 != id))) ψ ψ s.hp ((s.ZS fun x=>(x.fc id o).kc (· ==id)).hp.filter (·.1 != id)) w w (fun x=>(x.fc id o).kc (· ==id))
  have CW:=im fun x=>(x.fc id o).kc (· ==id)
  have kb1:=kb fun x=>(x.fc id o).kc (· ==id)
  have hH2:∀k' o',look ((s.ZS fun x=>(x.fc id o).kc (· ==id)).hp.filter (·.1 != id)) k'=some o'->k'≠id/\∃o1,look s.hp k'=some o1:=by
   intro k' o' XI;rw[G0,GQ]at XI;split at XI
   ·cases XI
   ·rename_i ZV
    cases ho1:look s.hp k' with
    |none=>rw[ho1]at XI;cases XI
    |some o1=>exact⟨ZV,o1,rfl⟩
  generalize ((s.ZS fun x=>(x.fc id o).kc (· ==id)).hp.filter (·.1 != id))=H2 at CW kb1 hH2⊢;intro x v hx Lz hn2;have hkc:=c6E (p:=(· ==id)) (w:=w) (w':=w) CW (fun _ _ _=>rfl) kb1;have UJ:=h.YC id _ ho
  have XZ:o.Zf=false->∀b,ZZ ψ id b->Im E ψ H2 b:=by
   intro hl b hb;refine⟨.inr ?_,?_⟩
   ·rcases h.own id _ b ho hb with⟨h1,_⟩|h1
    ·have e:o.org id=id:=by cases o<;>first|rfl|cases hl
     rw[e]at h1;have:=E.big id h1;omega
    ·exact h1
   ·rintro⟨k',o',XI,hq⟩;obtain⟨ZV,o1,ho1⟩:=hH2 k' o' XI;exact ZV (h.inj k' id o1 _ b ho1 ho hq hb)
  have DY:o.Zf=false->∀b k,ψ id=some (b,k)->Im E ψ H2 b:=fun hl b k hb=>XZ hl b (.inl ⟨k,hb⟩)
  have jk:∀{v},ZL (Im E ψ H2) ψ H2 w (AV.junk.kc (· ==id)) v:= .junk _
  cases hx with
  |UR j Zz o' m hj he hb=>
   by_cases Wd:j=id
   ·subst Wd;rw[ho]at hj;cases hj;simp only[AV.fc,if_true]
    cases o with
    |list sz xs=>
     simp only[AV.kc];rw[b0P];exact .iv _ _ (.V5 _)
    |ZI sz xs hole=>
     cases hole with
     |none=>
      simp only[AV.kc];rw[b0P];exact .iv _ _ (.V5 _)
     |some q=>exact jk
    | _=>exact jk
   ·have:=hkc _ _ (.UR j Zz o' m hj he hb) (by simp) (by simp);simpa[AV.fc,Wd]using this
  |sl j Zz lo len b k cap ad o' m hj he Kt hb ha Vc hk hm=>
   by_cases Wd:j=id
   ·subst Wd;rw[ho]at hj;cases hj;simp only[AV.fc,if_true]
    cases o with
    |list sz xs=>
     simp only[Ob.dim,a3y,a2L]at he;obtain⟨rfl,rfl⟩:=he;exact .iv _ _ (d4A UJ CW (DY rfl) hb ha Vc Kt)
    |ZI sz xs hole=>
     simp only[Ob.dim,a3y,a2L]at he;obtain⟨rfl,rfl⟩:=he
     cases hole with
     |none=>exact .iv _ _ (d4B UJ CW (XZ rfl) hb ha Vc Kt)
     |some q=>exact jk
    | _=>exact jk
   ·have:=hkc _ _ (.sl j Zz lo len b k cap ad o' m hj he Kt hb ha Vc hk hm) (by simp) (by simp);simpa[AV.fc,Wd]using this
  |ep j Zz i off b k o' m hj he hi hb=>
   by_cases Wd:j=id
   ·subst Wd;rw[ho]at hj;cases hj;simp only[AV.fc,if_true]
    cases o with
    |list sz xs=>
     simp only[Ob.dim,a3y,a2L]at he;obtain⟨rfl,rfl⟩:=he;exact .iv _ _ (d5A UJ CW (DY rfl) hb hi)
    | _=>exact jk
   ·have:=hkc _ _ (.ep j Zz i off b k o' m hj he hi hb) (by simp) (by simp);simpa[AV.fc,Wd]using this
  |mpr j b k o' hj hb=>
   by_cases Wd:j=id
   ·subst Wd;rw[ho]at hj;cases hj;simp only[AV.fc,if_true]
    cases o with
    |map sk g=>
     obtain⟨b',es,clock,g1,g2,g3,g4⟩:=UJ;rw[g1]at hb;cases hb;exact .iv _ _ (d0B g2 g3 g4 CW (DY rfl _ _ g1))
    |YA sk sz g hole=>
     cases hole with
     |none=>exact .iv _ _ (d3B UJ CW (XZ rfl) hb)
     |some q=>exact jk
    | _=>exact jk
   ·have:=hkc _ _ (.mpr j b k o' hj hb) (by simp) (by simp);simpa[AV.fc,Wd]using this
  |ptr j off b k o' hj hb=>
   by_cases Wd:j=id
   ·subst Wd;rw[ho]at hj;cases hj;simp only[AV.fc,if_true]
    cases o with
    |box cs=>
     have e:∀A H,(∀l,Sq cs=some l->ZL A ψ H w (.iv (.pt (l.drop off))) (.pointer (some ⟨b,off,none⟩)))->
      ZL A ψ H w (AV.kc (· ==j) (match Sq cs with|some l=> .iv (.pt (l.drop off))|none=> .junk)) (.pointer (some ⟨b,off,none⟩)):=by
      intro A H hh;split
      ·rename_i l hl;exact hh l hl
      ·exact .junk _
     exact e _ _ fun l hl=> .iv _ _ (d9A UJ hl CW (DY rfl) hb)
    | _=>exact jk
   ·have:=hkc _ _ (.ptr j off b k o' hj hb) (by simp) (by simp);simpa[AV.fc,Wd]using this
  |iv x v hx=>exact hkc _ _ (.iv x v hx) (fun _ h=>by cases h) (fun _ h=>by cases h)
  |nil Zz=>exact .nil Zz
  |fn g first caps vf vc hf hc h1 h2=>
   have WT:∀{c:Z3} {v:Value},(c.fc id o).of (· ==id)=false->W9 (Im E ψ s.hp) ψ s.hp w c v->
    W9 (Im E ψ H2) ψ H2 w (c.fc id o) v:=by
    intro c v hp hr
    cases hr with
    |val x v hx=>exact .val x v (hx.mono CW (fun _ _ _=>rfl))
    |ptr j off b k o' hj hb=>
     by_cases Wd:j=id
     ·subst Wd;rw[ho]at hj;cases hj;simp only[Z3.fc,if_true]at hp⊢
      cases o with
      |box cs=>
       dsimp only at hp⊢
       cases hl:Sq cs with
       |none=>rw[hl]at hp;simp[Z3.of]at hp
       |some l=>exact .val _ _ (d9A UJ hl CW (DY rfl) hb)
      | _=>simp[Z3.of]at hp
     ·simp only[Z3.fc,if_neg Wd];obtain⟨⟨o2,q1,_⟩,q2⟩:=kb1 j o' (by simpa using Wd) hj;exact .ptr j off b k o2 q1 hb
   simp only[AV.fc,AV.kc];split
   ·exact .junk _
   ·rename_i hp;simp only[b6w,b9G,not_or,not_exists,not_and,c8v,a0E,forall_exists_index,and_imp,forall_apply_eq_imp_iff₂]at hp
    refine .fn g _ _ vf vc (by simpa using hf) (by simpa using hc) (fun i c h=>?_) (fun i c h=>?_)<;>rw[a1C]at h
    ·cases hi:first[i]? with
     |none=>rw[hi]at h;cases h
     |some c0=>rw[hi]at h;cases h;exact WT (hp.1 c0 (a6y hi)) (h1 i c0 hi)
    ·cases hi:caps[i]? with
     |none=>rw[hi]at h;cases h
     |some c0=>rw[hi]at h;cases h;exact WT (hp.2 c0 (a6y hi)) (h2 i c0 hi)
  |agg cs vs hl h=>exact(Lz cs rfl).elim
  |Zp cs vs hl h=>exact(hn2 cs rfl).elim
  |un=>exact .un
  |junk v=>exact .junk v
end
section
variable{E:En}{n:Nat}{ψ:Pl}{s:St}{a:Act}{w:World}
def St.lone(id:Nat)(s:St):St:=s.ZS (AV.kc (· ==id))
theorem e1r(id k:Nat):look (s.lone id).hp k=(look s.hp k).map (Ob.ZS (AV.kc (· ==id))):=GQ _ _
def St.add(s:St)(id:Nat)(o:Ob):St:={s with hp:=(id,o)::s.hp}
theorem WL(id k:Nat)(o:Ob):look (s.add id o).hp k=if id=k then some o else look s.hp k:=by
 simp only[St.add,look]
def XE(ψ:Pl)(id:Nat)(p:Option (Nat×(Nat×Nat))):Pl:=⟨fun j=>if j=id then p else ψ j,fun j b=>j≠id/\ψ.sub j b⟩
theorem e3r(id:Nat)(p:Option (Nat×(Nat×Nat))){b:Nat}(h:ZZ (XE ψ id p) id b):∃k,p=some (b,k):=by
 rcases h with⟨k,h⟩|h
 ·simp only[XE,if_true]at h;exact⟨k,h⟩
 ·exact absurd rfl h.1
theorem Ix{id j:Nat}(p:Option (Nat×(Nat×Nat))){b:Nat}(hj:j≠id):ZZ (XE ψ id p) j b↔ZZ ψ j b:=by
 simp[ZZ,XE,hj]
theorem Z7.new(h:Z7 E n ψ s a w){id:Nat}(Vi:id<1000)(YQ:look s.hp id=none){o:Ob}{w':World}(hx:Ext w w'){p:Option (Nat×(Nat×Nat))}
 (hp:∀b k,p=some (b,k)->w.heap.size<=b)
 (ho:WU (fun b=>b<w.heap.size/\Im E ψ s.hp b) (XE ψ id p) (s.add id o).hp w' id o):Z7 E n (XE ψ id p) (s.add id o) a w':=by
 have ZV:∀{k o},look s.hp k=some o->k≠id:=by rintro k o hk rfl;rw[YQ]at hk;cases hk
 have Z2:∀{k o b},look s.hp k=some o->ZZ ψ k b->b<w.heap.size:=fun hk hb=>h.lt hk hb
 have hI:∀b,b<w.heap.size->Im E ψ s.hp b->Im E (XE ψ id p) (s.add id o).hp b:=by
  rintro b hb ⟨h1,h2⟩;refine⟨h1,?_⟩;rintro⟨k,ob,hk,hq⟩;rw[WL]at hk
  by_cases he:id=k
  ·subst he;obtain⟨q,hq⟩:=e3r _ _ hq;have:=hp _ _ hq;omega
  ·rw[if_neg he]at hk;exact h2 ⟨k,ob,hk,(Ix p (Ne.symm he)).1 hq⟩
 have hw:∀b,b<w.heap.size->Im E ψ s.hp b->w'.heap[b]? =w.heap[b]? :=fun b hb _=>hx.block b hb
 have hk:U8 ψ (XE ψ id p) s.hp (s.add id o).hp:=by
  intro k ob hk;have ZV:=ZV hk;refine⟨⟨ob,?_,ob.le_refl⟩,?_⟩
  ·rw[WL,if_neg (Ne.symm ZV)];exact hk
  ·simp[XE,ZV]
 refine {size:=h.size,defers:=h.defers.mono hI hw,frame:=fun t=>(h.frame t).mono hI hw hk,YC:=?_,inj:=?_,own:=?_,YU:=?_,par:=?_,old:=?_,grow:=?_,same:=?_}
 ·intro k ob PF;rw[WL]at PF
  by_cases he:id=k
  ·subst he;rw[if_pos rfl]at PF;cases PF;exact ho.mono (fun b _ hb=>hI b hb.1 hb.2) (fun _ _ _=>rfl) (U8.refl _ _) ⟨rfl,fun _ h=>h⟩ (fun _ _=>rfl)
  ·rw[if_neg he]at PF
   exact(h.YC k ob PF).mono hI hw hk ⟨by simp[XE,Ne.symm he],fun b hb=>⟨Ne.symm he,hb⟩⟩ fun b hb=>hx.block b (Z2 PF hb)
 ·intro i i' o1 o2 b hi Vg hb XH;rw[WL]at hi Vg
  by_cases e1:id=i
  ·by_cases e2:id=i'
   ·exact e1.symm.trans e2
   ·subst e1;rw[if_neg e2]at Vg;obtain⟨q,hb⟩:=e3r _ _ hb;have XH:=(Ix p (Ne.symm e2)).1 XH;have:=hp _ _ hb;have:=Z2 Vg XH;omega
  ·by_cases e2:id=i'
   ·subst e2;rw[if_neg e1]at hi;obtain⟨q,XH⟩:=e3r _ _ XH;have hb:=(Ix p (Ne.symm e1)).1 hb;have:=hp _ _ XH;have:=Z2 hi hb;omega
   ·rw[if_neg e1]at hi;rw[if_neg e2]at Vg;exact h.inj i i' o1 o2 b hi Vg ((Ix p (Ne.symm e1)).1 hb) ((Ix p (Ne.symm e2)).1 XH)
 ·intro i o1 b hi hb;rw[WL]at hi
  by_cases e1:id=i
  ·subst e1;obtain⟨q,hb⟩:=e3r _ _ hb;exact .inr (.inr (a0N h.grow (hp _ _ hb)))
  ·rw[if_neg e1]at hi;exact h.own i o1 b hi ((Ix p (Ne.symm e1)).1 hb)
 ·intro i o1 b hi hb;rw[WL]at hi;rw[if_neg (Ne.symm hb.1)]at hi;obtain⟨g1,g2,g3⟩:=h.YU i o1 b hi hb.2;exact⟨g1,a6R g2 hx.size,fun k=>by simp only[XE,if_neg hb.1];exact g3 k⟩
 ·intro i hi
  have:i≠id:=by have:=E.big i hi;omega
  simp only[XE,if_neg this];exact h.par i hi
 ·intro b hb hm;rw[hx.block b (a6R hb h.grow)];exact h.old b hb hm
 ·exact a0N h.grow hx.size
 ·exact⟨hx.same.1.trans h.same.1,hx.same.2.1.trans h.same.2.1,hx.same.2.2.1.trans h.same.2.2.1,a0N h.same.2.2.2 hx.same.2.2.2⟩
theorem Z7.MV(h:Z7 E n ψ s a w){id:Nat}{o o':Ob}(hold:look s.hp id=some o)(hle:o.le o')(Sy:o'.org id=o.org id)(hmul:o.multi=true->o'.multi=true){w':World}{b:Nat}{k:Nat×Nat}(hb:ψ id=some (b,k))
 (hw:∀i,i≠b->w'.heap[i]? =w.heap[i]?) (Ya:w'.heap.size=w.heap.size) (hs:w'.os=w.os/\w'.tape=w.tape/\w'.output=w.output/\w.drawn<=w'.drawn)
 (ho:(∀x v,ZL (Im E ψ s.hp) ψ s.hp w x v->ZL (Im E ψ (s.add id o').hp) ψ (s.add id o').hp w' x v)->
  (∀x v,Yq (Im E ψ s.hp) w x v->Yq (Im E ψ (s.add id o').hp) w' x v)->WU (Im E ψ (s.add id o').hp) ψ (s.add id o').hp w' id o'):
 Z7 E n ψ (s.add id o') a w':=by
 have Wi:∀i,ZD ψ (s.add id o').hp i↔ZD ψ s.hp i:=by
  intro i;constructor
  ·rintro⟨j,ob,hj,hq⟩;rw[WL]at hj
   by_cases e:id=j
   ·subst e;exact⟨id,o,hold,hq⟩
   ·rw[if_neg e]at hj;exact⟨j,ob,hj,hq⟩
  ·rintro⟨j,ob,hj,hq⟩
   by_cases e:id=j
   ·subst e;exact⟨id,o',by rw[WL,if_pos rfl],hq⟩
   ·exact⟨j,ob,by rw[WL,if_neg e];exact hj,hq⟩
 have hI:∀i,i<w.heap.size->Im E ψ s.hp i->Im E ψ (s.add id o').hp i:=fun i _ h=>⟨h.1,fun hh=>h.2 ((Wi i).1 hh)⟩
 have hB:ZD ψ s.hp b:=⟨id,o,hold, .inl ⟨k,hb⟩⟩
 have Uq:∀i,i<w.heap.size->Im E ψ s.hp i->w'.heap[i]? =w.heap[i]? :=fun i _ h=>hw i (fun e=>h.2 (e▸hB))
 have hk:U8 ψ ψ s.hp (s.add id o').hp:=by
  intro j ob hj;refine⟨?_,rfl⟩
  by_cases e:id=j
  ·subst e;rw[hold]at hj;cases hj;exact⟨o',by rw[WL,if_pos rfl],hle⟩
  ·exact⟨ob,by rw[WL,if_neg e];exact hj,ob.le_refl⟩
 refine {size:=h.size,defers:=h.defers.mono hI Uq,frame:=fun t=>(h.frame t).mono hI Uq hk,YC:=?_,inj:=?_,own:=?_,YU:=?_,par:=h.par,old:=?_,grow:=?_,same:=?_}
 ·intro j ob hj;rw[WL]at hj
  by_cases e:id=j
  ·subst e;rw[if_pos rfl]at hj;cases hj;exact ho (fun x v hx=>hx.mono hI Uq hk) (fun x v hx=>hx.mono hI Uq)
  ·rw[if_neg e]at hj
   refine(h.YC j ob hj).mono hI Uq hk ⟨rfl,fun _ h=>h⟩ fun i hi=>hw i ?_
   rintro rfl;exact e (h.inj id j o ob i hold hj (.inl ⟨k,hb⟩) hi)
 ·have conv:∀{i o1},look (s.add id o').hp i=some o1->∃o2,look s.hp i=some o2:=by
   intro i o1 hi;rw[WL]at hi
   by_cases e:id=i
   ·subst e;exact⟨o,hold⟩
   ·rw[if_neg e]at hi;exact⟨o1,hi⟩
  intro i i' o1 o2 x hi Vg hx Vq;obtain⟨_,g1⟩:=conv hi;obtain⟨_,g2⟩:=conv Vg;exact h.inj i i' _ _ x g1 g2 hx Vq
 ·intro i o1 x hi hx;rw[WL]at hi
  by_cases e:id=i
  ·subst e;rw[if_pos rfl]at hi;cases hi;rw[Sy];exact h.own id o x hold hx
  ·rw[if_neg e]at hi;exact h.own i o1 x hi hx
 ·intro i o1 x hi hx;rw[WL]at hi
  by_cases e:id=i
  ·subst e;rw[if_pos rfl]at hi;cases hi;obtain⟨g1,g2,g3⟩:=h.YU id o x hold hx;exact⟨hmul g1,by rw[Ya];exact g2,g3⟩
  ·rw[if_neg e]at hi;obtain⟨g1,g2,g3⟩:=h.YU i o1 x hi hx;exact⟨g1,by rw[Ya];exact g2,g3⟩
 ·intro i hi hm;rw[hw i ?_]
  ·exact h.old i hi hm
  ·rintro rfl
   rcases h.own id o i hold (.inl ⟨k,hb⟩)with⟨h1,h2⟩|h1
   ·exact hm (.inl ⟨_,h1,h2⟩)
   ·exact E.no hi hm h1
 ·rw[Ya];exact h.grow
 ·exact⟨hs.1.trans h.same.1,hs.2.1.trans h.same.2.1,hs.2.2.1.trans h.same.2.2.1,a0N h.same.2.2.2 hs.2.2.2⟩
theorem e5r(w:World)(a:Addr)(v:Value)(i:Nat)(h:i≠a.block):(w.setCell a v).heap[i]? =w.heap[i]? :=by
 simp only[World.setCell,a5N];rw[if_neg (fun e=>h e.symm)]
theorem e6r(w:World)(b o:Nat)(v:Value){c:Array Value}{e:TypeId}{f:Nat×Nat}(h:w.heap[b]? =some (.cells c e f)):
 (w.setCell ⟨b,o,none⟩ v).heap[b]? =some (.cells (c.setIfInBounds o v) e f):=by
 simp only[World.setCell,a5N,if_true,h,a8H];rfl
end
inductive V7 where
 |QH (x:Operand)
 |GY (sz:Nat)
 |pick (c a b:Operand)
 |alloc (z:List AV)
 |box (x:Operand)
 |build (z:List AV) (parts:List (Nat×Nat×Operand))
 |lit (sz len:Nat) (parts:List (Nat×Operand))
 |ld (a:Operand) (n:Option Nat)
 |st (a x:Operand) (n:Nat)
 |oO (x:Operand)
 |bin (op:BinOp) (x y:Operand)
 |beq (neg:Bool) (x y:Operand)
 |peq (neg:Bool) (x y:Operand)
 |eqs (neg:Bool) (ks:List Kd) (x y:Operand)
 |un (op:UnOp) (x:Operand)
 |cvt (k:IntKind) (x:Operand)
 |cut (sz:Nat) (x:Operand) (lo hi:Option Operand)
 |fa (off:Nat) (x:Operand)
 |Wq (off:Nat) (n:Option Nat) (x:Operand)
 |ia (sz:Nat) (x i:Operand)
 |is (x i:Operand)
 |ix (n:Nat) (x i:Operand)
 |ext (i:Nat) (x:Operand)
 |len (x:Operand)
 |lens (x:Operand)
 |app (sz bytes:Nat) (x y:Operand)
 |mm (max:Bool) (xs:List Operand)
 |call (f:FuncId) (args:List Operand)
 |Zc (x:Operand) (args:List Operand)
 |VO (f:FuncId) (first caps:List Operand)
 |mks (sz bytes:Nat) (z:List AV) (l c:Operand)
 |XB (sk:Sk)
 |UE (sk:Sk) (z:List AV) (m k:Operand) (ok:Bool)
 |Yy (sk:Sk) (m k x:Operand)
 |FY (sk:Sk) (m k:Operand)
 |FX (x:Operand)
 |PG (neg:Bool) (x:Operand)
 |cpy (sz:Nat) (x y:Operand)
 |clr (sz:Nat) (z:List AV) (x:Operand)
 |IC (sk:Sk) (z:List AV) (m k:Operand)
 |est (m st x:Operand)
 |QB (sk:Sk) (x:Operand)
 |nxt (x:Operand)
 |SK (x:Operand)
 deriving Inhabited
structure Yd where
 d:Option Nat
 g:Option (Nat×Bool)
 r:V7
 deriving Inhabited
def G1(sz:Nat):Value->AV
 | .slice none 0 0=> .nil sz
 | .agg _=> .junk
 | .tuple _=> .junk
 |v=> .iv (.v v)
def AV.const:Value->AV
 | .agg cs=> .agg (cs.toList.map (G1 0))
 |v=>G1 0 v
def St.ev(s:St):Operand->AV
 | .tmp t=>s.get t
 | .const v=>AV.const v
 | .global _=> .junk
 | .func f=> .fn f [] []
def XY(P:Program)(t:TypeId):Option Nat:=(P.info? t).map (·.size)
def g2J(P:Program)(t:TypeId):Nat:=match P.underlying t with
 |some (.slice e)=>(XY P e).getD 0
 | _=>0
def oS(P:Program):Nat->TypeId->List Nat
 | 0,_=>[]
 |d+1,t=>match P.underlying t with
  |some (.struct fs)=>fs.toList.flatMap fun f=>oS P d f.type
  |some (.array k e)=>(a2N k ()).flatMap fun _=>oS P d e
  |some (.slice e)=>[(XY P e).getD 0]
  | _=>[0]
def Ov:List Value->List Nat->List AV
 | [],_=>[]
 |v::r,[]=>G1 0 v::Ov r []
 |v::r,n::q=>G1 n v::Ov r q
def QI(P:Program)(t:TypeId):Option (List AV):=do
 let i<-P.info? t
 let z<-i.zero
 pure (Ov z.cells.toList (oS P 20 t))
def XT(P:Program)(t:TypeId):Bool:=match P.underlying t with
 |some (.struct _)|some (.array ..)=>true
 | _=>false
def RL(P:Program):Nat->TypeId->Option (List Kd)
 | 0,_=>none
 |d+1,t=>match P.underlying t with
  |some .bool=>some [.b]
  |some (.int k)=>some [.i k]
  |some .string=>some [.s]
  |some (.struct fs)=>if P.stoodInHeld t then none else fs.toList.foldlM (fun ks f=>if f.name≠ "_"/\f.offset=ks.length then
   (RL P d f.type).bind fun q=>if XY P f.type=some q.length then some (ks++q)else none else none) []
  | _=>none
def MD(P:Program)(t e:TypeId):Option Sk:=(RL P 20 t).bind fun l=>if XY P t=some l.length then(if(P.underlying e).isSome then some (XT P t,l,XT P e)else none)else none
def Hq:AV->Option (Kd×Value)
 | .iv (.v u)=>(Y0 u).map fun k=>(k,u)
 | _=>none
def SB:AV->Option ((Bool×List Kd)×List Value)
 | .iv (.v u)=>(Y0 u).map fun k=>((false,[k]),[u])
 | .agg cs=>(cs.mapM Hq).map fun(l:List (Kd×Value))=>((true,l.map (·.1)),l.map (·.2))
 | _=>none
open Classical in
noncomputable def ZH{β:Type}(g:List Value->Option β)(k:List Value)(c:Option β):List Value->Option β:=fun q=>if q=k then c else g q
open Classical in
noncomputable def Ou(k:List Value)(l:List (List Value)):List (List Value):=l.filter fun q=>decide (q≠k)
def FW:AV->Bool
 | .agg _=>true
 | _=>false
def S5(agg:Bool)(cs:List AV):AV:=if agg then .agg cs else match cs with| [x]=>x| _=> .junk
def Nz(z:List AV)(agg ok:Bool):Option (List IV)->AV
 |some c=>if ok then .Zp [S5 agg (c.map .iv), .iv (.v (.bool true))]else S5 agg (c.map .iv)
 |none=>if ok then .Zp [S5 agg z, .iv (.v (.bool false))]else S5 agg z
def St.mapOf(s:St):AV->Option (Sk×(List Value->Option (List IV)))
 | .mpr id=>match look s.hp id with
  |some (.map sk g)=>some (sk,g)
  |some (.WE sk g _ _)=>some (sk,g)
  | _=>none
 | .iv (.mp sk g)=>some (sk,g)
 | _=>none
def St.Qw(s:St):AV->Option (Nat×Sk×Nat×(List Value->Option (List (List IV)))×Option (List Value))
 | .mpr id=>match look s.hp id with
  |some (.YA sk sz g hole)=>some (id,sk,sz,g,hole)
  | _=>none
 | _=>none
open Classical in
noncomputable def nO(v:Value):List Value->List AV->Option Nat
 |u::vs,c::cs=>match c with
  | .mpr id=>if u=v then some id else nO v vs cs
  | _=>nO v vs cs
 | _,_=>none
noncomputable def c6Q(s:Hp)(v:Value):Hp->Option Nat
 | []=>none
 |(g,_)::r=>match look s g with
  |some (.gh _ vs cs)=>match nO v vs cs with
   |some id=>some id
   |none=>c6Q s v r
  | _=>c6Q s v r
noncomputable def St.oz(s:St):AV->AV
 | .iv (.v v)=>match c6Q s.hp v s.hp with
  |some id=> .mpr id
  |none=> .iv (.v v)
 |x=>x
theorem c7Q{v:Value}:∀{vs:List Value} {cs:List AV} {id:Nat},nO v vs cs=some id->∃i:Nat,vs[i]? =some v/\cs[i]? =some (AV.mpr id)
 | [],_,_,h=>by simp[nO]at h
 | _::_,[],_,h=>by simp[nO]at h
 |u::vs,c::cs,id,h=>by
  unfold nO at h;split at h
  ·split at h
   ·rename_i e;subst e;cases h;exact⟨0,rfl,rfl⟩
   ·obtain⟨i,h1,h2⟩:=c7Q h;exact⟨i+1,by simpa using h1,by simpa using h2⟩
  ·obtain⟨i,h1,h2⟩:=c7Q h;exact⟨i+1,by simpa using h1,by simpa using h2⟩
theorem c8Q{s:Hp}{v:Value}:∀{r:Hp} {id:Nat},c6Q s v r=some id->∃(g:Nat) (Z:GZ) (vs:List Value) (cs:List AV) (i:Nat),look s g=some (.gh Z vs cs)/\vs[i]? =some v/\cs[i]? =some (AV.mpr id)
 | [],_,h=>by simp[c6Q]at h
 |(g,o)::r,id,h=>by
  unfold c6Q at h;split at h
  ·rename_i Z vs cs hl;split at h
   ·rename_i XK hf;cases h;obtain⟨i,h1,h2⟩:=c7Q hf;exact⟨g,Z,vs,cs,i,hl,h1,h2⟩
   ·exact c8Q h
  ·exact c8Q h
@[simp]theorem g5g{s:St}{id:Nat}:s.oz (.mpr id)= .mpr id:=rfl
def St.kill(id:Nat)(s:St):St:=
 let t:=s.ZS (AV.kc (· ==id))
 {t with hp:=t.hp.filter (·.1 != id)}
def Ob.org?:Ob->Option Nat
 | .YN org _ _=>some org
 | _=>none
def XV(P:Program)(f:FuncId):Bool:=match P.funcs[f]? with
 |some fn=>fn.name != "runtime.NumGoroutine"&&fn.body.isSome
 |none=>false
def c9Q(ops:Array Oper)(o:Oper):Option (Option (Nat×Bool)):=match o.guard with
 |none=>some none
 |some (j,b)=>((ops[j]?).bind (·.dst)).map fun d=>some (d,b)
def comp(P:Program)(o:Oper):Option V7:=
 match o.op with
 | .move x| .assign x=>match x with
  | .const (.slice none 0 0)=>some (.GY (g2J P o.type))
  |x=>some (.QH x)
 | .pick c a b=>some (.pick c a b)
 | .alloc t=>(QI P t).map .alloc
 | .box _ x=>some (.box x)
 | .build t parts=>match P.underlying t with
  |some (.struct fs)=>if fs.all (fun f=>(XY P f.type).isSome)then do
   let z<-QI P t
   let l<-parts.toList.mapM fun(p:Nat×Operand)=>do
    let f<-fs[p.1]?
    let n<-XY P f.type
    pure (f.offset,n,p.2)
   pure (.build z l)
   else none
  |some (.array _ e)=>do
   let q<-XY P e
   let z<-QI P t
   pure (.build z (parts.toList.map fun p=>(p.1*q,q,p.2)))
  | _=>none
 | .buildSlice t len parts=>match P.underlying t with
  |some (.slice e)=>do
   let sz<-XY P e
   if parts.size=len/\(parts.toList.map (·.1))=a7I len/\0<sz/\len*sz<=2^24 then do
    let _<-QI P e
    pure (.lit sz len parts.toList)
   else none
  | _=>none
 | .load t a=>do
  let _<-P.underlying t
  if XT P t then(XY P t).map fun n=> .ld a (some n)else pure (.ld a none)
 | .store t a x=>(XY P t).map fun n=> .st a x n
 | .nilCheck x=>some (.oO x)
 | .binOp op xt x y _=>match P.underlying xt with
  |some (.int _)|some .string=>some (.bin op x y)
  |some .bool=>match op with
   | .eql=>some (.beq false x y)
   | .neq=>some (.beq true x y)
   | _=>none
  |some (.pointer _)=>match op with
   | .eql=>some (.peq false x y)
   | .neq=>some (.peq true x y)
   | _=>none
  |some (.slice _)=>match op,y with
   | .eql, .const (.slice none 0 0)=>some (.PG false x)
   | .neq, .const (.slice none 0 0)=>some (.PG true x)
   | _,_=>none
  |some (.struct _)=>if P.eqGuardType P.depth xt=false then(RL P 20 xt).bind fun ks=>if XY P xt≠some ks.length then none else match op with
   | .eql=>some (.eqs false ks x y)
   | .neq=>some (.eqs true ks x y)
   | _=>none
   else none
  | _=>none
 | .unOp op _ x=>some (.un op x)
 | .convert s d x=>match P.underlying s,P.underlying d with
  |some (.int _),some (.int k)=>some (.cvt k x)
  | _,_=>none
 | .makeFunc (.func f) first caps=>some (.VO f first.toList caps.toList)
 | .makeMap t none=>match P.underlying t with
  |some (.map k e)=>(MD P k e).map .XB
  | _=>none
 | .makeSlice t l c=>match P.underlying t with
  |some (.slice e)=>do
   let i<-P.info? e
   let z<-QI P e
   if z.length=i.size/\0<i.size then pure (.mks i.size i.bytes z l c)else none
  | _=>none
 | .slice t x lo hi none=>match P.underlying t with
  |some (.slice e)=>(XY P e).map fun sz=> .cut sz x lo hi
  | _=>none
 | .fieldAddr st x f=>match P.underlying st with
  |some (.struct fs)=>do
   let f<-fs[f]?
   let n<-XY P f.type
   if n=0 then none else pure (.fa f.offset x)
  | _=>none
 | .field st x f=>match P.underlying st with
  |some (.struct fs)=>do
   let f<-fs[f]?
   let n<-XY P f.type
   let _<-P.underlying f.type
   pure (.Wq f.offset (if XT P f.type then some n else none) x)
  | _=>none
 | .indexAddr t x i=>match P.underlying t with
  |some (.slice e)=>(XY P e).map fun sz=> .ia sz x i
  | _=>none
 | .index t x i=>match P.underlying t with
  |some .string=>some (.is x i)
  |some (.array n e)=>if XY P e=some 1/\XT P e=false/\(P.underlying e).isSome=true then some (.ix n x i)else none
  | _=>none
 | .lookup t m k ok=>match P.underlying t with
  |some (.map k' e)=>do
   let sk<-MD P k' e
   let z<-QI P e
   if((P.info? e).bind (·.zero)).map Sz=some (XT P e)then pure (.UE sk z m k ok)else none
  | _=>none
 | .mapEntry t m k=>match P.underlying t with
  |some (.map k' e)=>do
   let sk<-MD P k' e
   let z<-QI P e
   if((P.info? e).bind (·.zero)).map Sz=some (XT P e)then pure (.IC sk z m k)else none
  | _=>none
 | .entryStore _ m st x=>some (.est m st x)
 | .range t x=>match P.underlying t with
  |some (.map k e)=>(MD P k e).map fun sk=> .QB sk x
  | _=>none
 | .next it false=>some (.nxt it)
 | .entry it=>some (.SK it)
 | .mapUpdate t m k x| .insert t m k x=>match P.underlying t with
  |some (.map k' e)=>(MD P k' e).map fun sk=> .Yy sk m k x
  | _=>none
 | .extract x i=>some (.ext i x)
 | .call c=>match c.callee with
  | .value (.func f)=>if XV P f then some (.call f c.args.toList)else none
  | .value x=>some (.Zc x c.args.toList)
  | .builtin .len=>match c.args.toList,c.argTypes.toList with
   | [x],[t]=>match P.underlying t with
    |some (.slice _)=>some (.len x)
    |some .string=>some (.lens x)
    |some (.map _ _)=>some (.FX x)
    | _=>none
   | _,_=>none
  | .builtin .append=>match c.args.toList,c.argTypes.toList with
   | [x,y],[t,u]=>match P.underlying t,P.underlying u with
    |some (.slice e),some (.slice _)=>(P.info? e).bind fun i=>i.zero.bind fun z=>if z.cells.size=i.size then some (.app i.size i.bytes x y)else none
    | _,_=>none
   | _,_=>none
  | .builtin .min=>some (.mm false c.args.toList)
  | .builtin .max=>some (.mm true c.args.toList)
  | .builtin .delete=>match c.args.toList,c.argTypes.toList with
   | [m,k],t::_=>match P.underlying t with
    |some (.map k' e)=>(MD P k' e).map fun sk=> .FY sk m k
    | _=>none
   | _,_=>none
  | .builtin .copy=>match c.args.toList,c.argTypes.toList with
   | [x,y],t::_=>match P.underlying t with
    |some (.slice e)=>(XY P e).map fun sz=> .cpy sz x y
    | _=>none
   | _,_=>none
  | .builtin .clear=>match c.args.toList,c.argTypes.toList with
   | [x],t::_=>match P.underlying t with
    |some (.slice e)=>(P.info? e).bind fun i=>(QI P e).bind fun z=>if z.length=i.size then some (.clr i.size z x)else none
    | _=>none
   | _,_=>none
  | _=>none
 | _=>none
def Ob.TQ:Ob->Option (Nat×List (List IV))
 | .list sz xs=>some (sz,xs)
 | .YN _ sz xs=>some (sz,xs)
 | _=>none
def Ob.Xn(o:Ob)(sz:Nat)(xs:List (List IV)):Ob:=match o with
 | .YN org _ _=> .YN org sz xs
 | _=> .list sz xs
theorem c0R{A:Nat->Prop}{ψ:Pl}{H:Hp}{w:World}{id sz:Nat}{xs:List (List IV)}{o:Ob}(he:o.TQ=some (sz,xs))(h:WU A ψ H w id o):WU A ψ H w id (.list sz xs):=by
 cases o<;>simp only[Ob.TQ,a3y,a2L]at he<;>first|(obtain⟨rfl,rfl⟩:=he;exact h)|cases he
theorem c1R{A:Nat->Prop}{ψ:Pl}{H:Hp}{w:World}{id sz Zz:Nat}{xs ys:List (List IV)}{o:Ob}(he:o.TQ=some (Zz,ys))(h:WU A ψ H w id (.list sz xs)):WU A ψ H w id (o.Xn sz xs):=by
 cases o<;>first|exact h|cases he
theorem c2R{o:Ob}{sz:Nat}{xs:List (List IV)}(he:o.TQ=some (sz,xs)):o.dim=some (sz,xs.length):=by
 cases o<;>simp only[Ob.TQ,a3y,a2L]at he<;>first|(obtain⟨rfl,rfl⟩:=he;rfl)|cases he
theorem c3R{o:Ob}{sz Zz:Nat}{xs ys:List (List IV)}(he:o.TQ=some (Zz,ys)):(o.Xn sz xs).dim=some (sz,xs.length):=by
 cases o<;>first|rfl|cases he
theorem c4R{o:Ob}{sz Zz id:Nat}{xs ys:List (List IV)}(he:o.TQ=some (Zz,ys)):(o.Xn sz xs).org id=o.org id:=by
 cases o<;>first|rfl|cases he
theorem c5R{o:Ob}{sz:Nat}{xs:List (List IV)}(he:o.TQ=some (sz,xs)):o.multi=false:=by
 cases o<;>first|rfl|cases he
def GR(n:Nat):Option Nat->Bool
 |some d=>decide (d<n)
 |none=>true
def LH(P:Program)(n:Nat)(ops:Array Oper)(o:Oper):Option Yd:=do
 let g<-c9Q ops o
 let r<-comp P o
 if GR n o.dst then pure ⟨o.dst,g,r⟩else none
def AV.cellsOf:AV->Option (List AV)
 | .agg cs=>some cs
 | .Zp _=>none
 | .un=>none
 | .junk=>none
 |x=>some [x]
def AV.one:AV->Bool
 | .agg _| .Zp _| .un| .junk=>false
 | _=>true
def YB{α:Type}(z:List α)(off:Nat)(cs:List α):List α:=z.take off++cs++z.drop (off+cs.length)
def AV.iv?:AV->Option IV
 | .iv x=>some x
 | .nil sz=>some (.Z6 sz [])
 | _=>none
def St.ivOf(s:St):AV->Option IV
 | .iv x=>some x
 | .nil sz=>some (.Z6 sz [])
 | .sl id sz lo len=>match look s.hp id with
  |some (.list Zz xs)=>if Zz=sz then some (.Z6 sz ((xs.drop lo).take len))else none
  | _=>none
 | _=>none
def St.pure1(s:St)(x:AV):AV:=match s.ivOf x with|some y=> .iv y|none=>x
def St.pure(s:St):AV->AV
 | .agg cs=> .agg (cs.map s.pure1)
 |x=>s.pure1 x
def AV.ids:AV->List Nat
 | .sl id _ _ _=>[id]
 | .mpr id=>[id]
 | .agg cs=>cs.flatMap fun| .sl id _ _ _=>[id]| .mpr id=>[id]| _=>[]
 | _=>[]
def St.YX(s:St)(xs:List AV):St:=(xs.flatMap AV.ids).foldl (fun s id=>if id<1000 then s.drop id else s) s
def c8R(op:BinOp)(k:IntKind)(x y:Int):Int:=
 let a:=BitVec.ofInt k.bits x
 let b:=BitVec.ofInt k.bits y
 match op with
 | .and=>k.wrap (a&&& b).toNat
 | .or=>k.wrap (a|||b).toNat
 | .xor=>k.wrap (a^^^b).toNat
 | _=>k.wrap (a&&& ~~~b).toNat
def c9R(op:BinOp)(k:IntKind)(x y:Int):Int:=
 match op with
 | .shl=>k.wrap (x*2^(min y.toNat k.bits))
 | _=>x.fdiv (2^(min y.toNat k.bits))
def kQ(a b:ByteArray):Bool:=a.toList==b.toList
def Uu(a b:ByteArray):Bool:=Op.bytesLess a.toList b.toList
def Pr(op:BinOp)(k:IntKind)(a b:Int):Option Value:=
 match op with
 | .add=>some (.int k (k.wrap (a+b)))
 | .sub=>some (.int k (k.wrap (a-b)))
 | .mul=>some (.int k (k.wrap (a*b)))
 | .quo=>if b=0 then none else some (.int k (k.wrap (a.tdiv b)))
 | .rem=>if b=0 then none else some (.int k (a.tmod b))
 | .eql=>some (.bool (a==b))
 | .neq=>some (.bool (a != b))
 | .lss=>some (.bool (decide (a<b)))
 | .leq=>some (.bool (decide (a<=b)))
 | .gtr=>some (.bool (decide (a>b)))
 | .geq=>some (.bool (decide (a≥b)))
 | .and=>some (.int k (c8R .and k a b))
 | .or=>some (.int k (c8R .or k a b))
 | .xor=>some (.int k (c8R .xor k a b))
 | .andNot=>some (.int k (c8R .andNot k a b))
 | .shl=>none
 | .shr=>none
def kR(op:BinOp)(a b:ByteArray):Option Value:=
 match op with
 | .eql=>some (.bool (kQ a b))
 | .neq=>some (.bool (!kQ a b))
 | .lss=>some (.bool (Uu a b))
 | .leq=>some (.bool (Uu a b||kQ a b))
 | .gtr=>some (.bool (!(Uu a b||kQ a b)))
 | .geq=>some (.bool (!Uu a b))
 | _=>none
def YT(op:BinOp):Value->Value->Option Value
 | .int j a, .int k b=>match op with
  | .shl=>if b<0 then none else some (.int j (c9R .shl j a b))
  | .shr=>if b<0 then none else some (.int j (c9R .shr j a b))
  |op=>if j=k then Pr op j a b else none
 | .string a, .string b=>kR op a b
 | _,_=>none
def unV(op:UnOp):Value->Option Value
 | .int k a=>match op with
  | .neg=>some (.int k (k.wrap (0-a)))
  | _=>none
 | .bool b=>match op with
  | .not=>some (.bool (!b))
  | _=>none
 | _=>none
def Hf:Kd->Value->Value->Option Bool
 | .b, .bool a, .bool b=>some (a==b)
 | .i _, .int j a, .int k b=>if j=k then some (a==b)else none
 | .s, .string a, .string b=>some (a==b)
 | _,_,_=>none
def TY:List Kd->List AV->List AV->Option Bool
 | [],[],[]=>some true
 |t::ks, .iv (.v a)::r, .iv (.v b)::q=>(Hf t a b).bind fun x=>(TY ks r q).map fun y=>x&&y
 | _,_,_=>none
def CH(mx:Bool)(k:IntKind)(n:Int):List AV->Option (IntKind×Int)
 | []=>some (k,n)
 | .iv (.v (.int _ m))::r=>CH mx k (if mx then max n m else min n m) r
 | _=>none
def c5S(mx:Bool):List AV->Option (IntKind×Int)
 | .iv (.v (.int k n))::r=>CH mx k n r
 | _=>none
def AV.cap:AV->Option Z3
 | .ptr id off=>some (.ptr id off)
 | .iv x=>some (.val x)
 | .nil sz=>some (.val (.Z6 sz []))
 | _=>none
def Z3.av:Z3->AV
 | .ptr id off=> .ptr id off
 | .val x=> .iv x
def St.bound(s:St)(d:Nat):Option Operand->Option Int
 |none=>some d
 |some x=>match s.ev x with
  | .iv (.v (.int _ n))=>some n
  | _=>none
def St.elems(s:St):AV->Option (Nat×List (List IV))
 | .iv (.Z6 sz xs)=>some (sz,xs)
 | .nil sz=>some (sz,[])
 | .sl id sz lo len=>match look s.hp id with
  |some o=>match o.TQ with
   |some (_,xs)=>some (sz,(xs.drop lo).take len)
   |none=>none
  |none=>none
 | _=>none
end Go.Vm
end

section
namespace Go.Vm
structure Rn (w w':World):Prop where
 os:w'.os=w.os
 tape:w'.tape=w.tape
 output:w'.output=w.output
 drawn:w.drawn<=w'.drawn
def ZX(P:Program)(fr:Bool)(f:FuncId)(args:List AV)(H:Hp)(res:AV)(H':Hp):Prop:=
 ((
  ∀id o,look H id=some o->o.Zf=false)/\∀id o,look H' id=some o->o.Zf=false)/\∀(A:Nat->Prop) (ψ:Pl) (w:World) (vs:List Value),(∀b,A b->b<w.heap.size)->
  (∀id o,look H id=some o->WU A ψ H w id o)->
  (∀id XK o o' b,look H id=some o->look H XK=some o'->ZZ ψ id b->ZZ ψ XK b->id=XK)->Ug ψ H w->
  (∀b,ZD ψ H b->¬A b)->vs.length=args.length->(∀i x,args[i]? =some x->ZL A ψ H w x (vs.getD i undef))->
  Calls P f vs.toArray w fun e w'=>∃v ZF,e= .returned v∧
   (∀b,b<w.heap.size->¬ZD ψ H b->w'.heap[b]? =w.heap[b]?)/\w.heap.size<=w'.heap.size/\Rn w w'∧
   (∀id o,look H id=some o->ZF id=ψ id)∧
   (∀id o b,look H' id=some o->ZZ ZF id b->(∃o0,look H id=some o0/\ZZ ψ id b)\/w.heap.size<=b)∧
   (∀id XK o o' b,look H' id=some o->look H' XK=some o'->ZZ ZF id b->ZZ ZF XK b->id=XK)/\Ug ZF H' w'∧
   (∀id o,look H' id=some o->WU (fun b=>((fr=false/\A b)\/w.heap.size<=b)/\¬ZD ZF H' b) ZF H' w' id o)∧
   ZL (fun b=>((fr=false/\A b)\/w.heap.size<=b)/\¬ZD ZF H' b) ZF H' w' res v
def Mr(P:Program)(fr:Bool)(f:FuncId)(args:List AV)(H:Hp)(R:AV->Hp->Prop):Prop:=
 ((
  ∀id o,look H id=some o->o.Zf=false)/\∀res H',R res H'->∀id o,look H' id=some o->o.Zf=false)/\∀(A:Nat->Prop) (ψ:Pl) (w:World) (vs:List Value),(∀b,A b->b<w.heap.size)->
  (∀id o,look H id=some o->WU A ψ H w id o)->
  (∀id XK o o' b,look H id=some o->look H XK=some o'->ZZ ψ id b->ZZ ψ XK b->id=XK)->Ug ψ H w->
  (∀b,ZD ψ H b->¬A b)->vs.length=args.length->(∀i x,args[i]? =some x->ZL A ψ H w x (vs.getD i undef))->
  Calls P f vs.toArray w fun e w'=>∃v ZF res H',R res H'/\e= .returned v∧
   (∀b,b<w.heap.size->¬ZD ψ H b->w'.heap[b]? =w.heap[b]?)/\w.heap.size<=w'.heap.size/\Rn w w'∧
   (∀id o,look H id=some o->ZF id=ψ id)∧
   (∀id o b,look H' id=some o->ZZ ZF id b->(∃o0,look H id=some o0/\ZZ ψ id b)\/w.heap.size<=b)∧
   (∀id XK o o' b,look H' id=some o->look H' XK=some o'->ZZ ZF id b->ZZ ZF XK b->id=XK)/\Ug ZF H' w'∧
   (∀id o,look H' id=some o->WU (fun b=>((fr=false/\A b)\/w.heap.size<=b)/\¬ZD ZF H' b) ZF H' w' id o)∧
   ZL (fun b=>((fr=false/\A b)\/w.heap.size<=b)/\¬ZD ZF H' b) ZF H' w' res v
theorem ZX.n{P:Program}{fr:Bool}{f:FuncId}{args:List AV}{H:Hp}{res:AV}{H':Hp}(h:ZX P fr f args H res H'):Mr P fr f args H (fun r K=>r=res/\K=H'):=
 ⟨⟨h.1.1,fun r K e=>by obtain⟨rfl,rfl⟩:=e;exact h.1.2⟩,fun A ψ w vs a b c d e f g=>(h.2 A ψ w vs a b c d e f g).mono fun e w' ⟨v,ZF,q⟩=>⟨v,ZF,res,H',⟨rfl,rfl⟩,q⟩⟩
theorem Mr.one{P:Program}{fr:Bool}{f:FuncId}{args:List AV}{H:Hp}{res:AV}{H':Hp}{R:AV->Hp->Prop}(h:Mr P fr f args H R)(hR:∀r K,R r K->r=res/\K=H')
 (hl:∀id o,look H' id=some o->o.Zf=false):ZX P fr f args H res H':=
 ⟨⟨h.1.1,hl⟩,fun A ψ w vs a b c d e f g=>(h.2 A ψ w vs a b c d e f g).mono fun e w' ⟨v,ZF,r,K,hr,q⟩=>by obtain⟨rfl,rfl⟩:=hR r K hr;exact⟨v,ZF,q⟩⟩
def Le(s s':St):Prop:=∀E n a w,T8 E n s a w->T8 E n s' a w
def HX(s:St)(F:St->Prop):Prop:=∀E n a w,T8 E n s a w->∃s',F s'/\T8 E n s' a w
theorem Le.x{s s':St}{F:St->Prop}(h:Le s s')(hF:F s'):HX s F:=fun E n a w hs=>⟨s',hF,h E n a w hs⟩
theorem HX.le{s s':St}{F:St->Prop}(h:Le s s')(k:HX s' F):HX s F:=fun E n a w hs=>k E n a w (h E n a w hs)
theorem Le.refl(s:St):Le s s:=fun _ _ _ _ h=>h
theorem Le.trans{s t u:St}(h:Le s t)(k:Le t u):Le s u:=fun E n a w hs=>k E n a w (h E n a w hs)
theorem b3K{α:Type}(l r:List (Nat×α))(k:Nat):look (l++r) k=(look l k).or (look r k):=by
 induction l with
 |nil=>simp[look]
 |cons p l ih=>obtain⟨j,x⟩:=p;simp only[b4O,look];split<;>simp[ih]
def St.join(s:St)(H:Hp):St:=⟨s.fr,H++s.hp⟩
theorem b4K(vs:List Value)(i:Nat):vs.toArray.getD i undef=vs.getD i undef:=by
 simp[a3E,a7V]
def Z3.WM(ids:List Nat):Z3->Bool
 | .ptr id _=>ids.contains id
 | .val _=>true
def AV.WM(ids:List Nat):AV->Bool
 | .iv _=>true
 | .nil _=>true
 | .sl id _ _ _=>ids.contains id
 | .ptr id _=>ids.contains id
 | .ep id _ _ _=>ids.contains id
 | .mpr id=>ids.contains id
 | .fn _ a b=>a.all (Z3.WM ids)&&b.all (Z3.WM ids)
 | .agg _=>false
 | .Zp _=>false
 | .un=>true
 | .junk=>true
def AV.YO(ids:List Nat):AV->Bool
 | .agg cs=>cs.all (AV.WM ids)
 |x=>x.WM ids
theorem W9.restrict{A A':Nat->Prop}{ψ:Pl}{H H':Hp}{w:World}{c:Z3}{v:Value}(h:W9 A ψ H w c v){ids:List Nat}(hi:c.WM ids=true)
 (hA:∀b,b<w.heap.size->A b->A' b) (hH:∀id o,ids.contains id=true->look H id=some o->look H' id=some o):W9 A' ψ H' w c v:=by
 cases h with
 |ptr id off b k o ho hb=>exact .ptr id off b k o (hH id o hi ho) hb
 |val x v h1=>exact .val x v (h1.mono hA (fun _ _ _=>rfl))
theorem ZL.UN{A A':Nat->Prop}{ψ:Pl}{H H':Hp}{w:World}{x:AV}{v:Value}(h:ZL A ψ H w x v){ids:List Nat}(hi:x.WM ids=true)
 (hA:∀b,b<w.heap.size->A b->A' b) (hH:∀id o,ids.contains id=true->look H id=some o->look H' id=some o):ZL A' ψ H' w x v:=by
 cases h with
 |iv x v h=>exact .iv x v (h.mono hA (fun _ _ _=>rfl))
 |nil sz=>exact .nil sz
 |UR id sz o n ho he hb=>exact .UR id sz o n (hH id _ hi ho) he hb
 |sl id sz lo len b k cap a o n ho he hx hb ha Vc hk hm=>exact .sl id sz lo len b k cap a o n (hH id _ hi ho) he hx hb ha Vc hk hm
 |ptr id off b k o ho hb=>exact .ptr id off b k o (hH id o hi ho) hb
 |ep id sz i off b k o n ho he Vg hb=>exact .ep id sz i off b k o n (hH id _ hi ho) he Vg hb
 |mpr id b k o ho hb=>exact .mpr id b k o (hH id o hi ho) hb
 |fn f first caps vf vc hf hc h1 h2=>
  simp only[AV.WM,a3C,a8C]at hi;exact .fn f first caps vf vc hf hc (fun i c h=>(h1 i c h).restrict (hi.1 c (a6y h)) hA hH) (fun i c h=>(h2 i c h).restrict (hi.2 c (a6y h)) hA hH)
 |agg cs vs hl h=>cases hi
 |Zp cs vs hl h=>cases hi
 |un=>exact .un
 |junk v=>exact .junk v
theorem ZL.restrict{A A':Nat->Prop}{ψ:Pl}{H H':Hp}{w:World}{x:AV}{v:Value}(h:ZL A ψ H w x v){ids:List Nat}(hi:x.YO ids=true)
 (hA:∀b,b<w.heap.size->A b->A' b) (hH:∀id o,ids.contains id=true->look H id=some o->look H' id=some o):ZL A' ψ H' w x v:=by
 cases x with
 |agg cs=>
  cases h with
  |agg cs vs hl h=>
   simp only[AV.YO,a8C]at hi
   exact .agg cs vs hl fun i c hc=>(h i c hc).UN (hi c (a6y hc)) hA hH
 | _=>exact h.UN hi hA hH
def Ob.YO(ids:List Nat):Ob->Bool
 | .box cs=>cs.all (AV.WM ids)
 | .gh _ _ cs=>cs.all (AV.WM ids)
 | _=>true
theorem WU.restrict{A A':Nat->Prop}{ψ:Pl}{H H':Hp}{w:World}{id:Nat}{o:Ob}(h:WU A ψ H w id o){ids:List Nat}(hi:o.YO ids=true)
 (hA:∀b,b<w.heap.size->A b->A' b) (hH:∀id o,ids.contains id=true->look H id=some o->look H' id=some o):WU A' ψ H' w id o:=by
 cases o with
 |box cs=>
  obtain⟨b,c,e,h1,h2,h3,h4⟩:=h;simp only[Ob.YO,a8C]at hi;exact⟨b,c,e,h1,h2,h3,fun i x hx=>(h4 i x hx).UN (hi x (a6y hx)) hA hH⟩
 |list sz xs=>
  obtain⟨h0,h⟩:=h;refine⟨h0,?_⟩
  rcases h with h|⟨b,k,c,e,h1,h2,h3,SX,h4⟩
  ·exact .inl h
  ·exact .inr ⟨b,k,c,e,h1,h2,h3,SX,fun i j x hx=>(h4 i j x hx).mono hA (fun _ _ _=>rfl)⟩
 |map sk g=>obtain⟨b,es,clock,h1,h2,h3,m⟩:=h;exact⟨b,es,clock,h1,h2,h3,m.mono hA (fun _ _ _=>rfl)⟩
 |WE sk g n kk=>obtain⟨b,es,clock,h1,h2,h3,m,h4⟩:=h;exact⟨b,es,clock,h1,h2,h3,m.mono hA (fun _ _ _=>rfl),h4⟩
 |YN org sz xs=>
  obtain⟨h0,h⟩:=h;refine⟨h0,?_⟩
  rcases h with h|⟨b,k,c,e,h1,h2,h3,SX,h4⟩
  ·exact .inl h
  ·exact .inr ⟨b,k,c,e,h1,h2,h3,SX,fun i j x hx=>(h4 i j x hx).mono hA (fun _ _ _=>rfl)⟩
 |YA sk sz g hole=>
  obtain⟨b,es,clock,pl,h1,h2,h3,h4,h5,h6,h7,h8,h9,UI,Tl⟩:=h;refine⟨b,es,clock,pl,h1,h2,h3,h4,h5,h6,h7,h8,fun k xs hg=>?_,UI,Tl⟩;obtain⟨e,g1,g2,g3⟩:=h9 k xs hg;exact⟨e,g1,g2,g3.mono hA (fun _ _ _=>rfl) fun _ _ _=>rfl⟩
 |ZI sz xs hole=>
  obtain⟨h0,b,k,c,e,pl,h1,h2,h3,h4,h5,h6,h7⟩:=h;exact⟨h0,b,k,c,e,pl,h1,h2,h3,h4,fun i x g1 g2=>(h5 i x g1 g2).mono hA (fun _ _ _=>rfl) fun _ _ _=>rfl,h6,h7⟩
 |iter sk g left last=>
  obtain⟨b,m,since,stamps,Yx,h1,h2,h3⟩:=h;refine⟨b,m,since,stamps,Yx,h1,h2,?_⟩
  rcases h3 with h3|⟨bm,es,g1,g2,g3,g4,g5,g6,g7⟩
  ·exact .inl h3
  ·exact .inr ⟨bm,es,g1,hA bm (Vw g3) g2,g3,g4,g5,g6.mono hA (fun _ _ _=>rfl),g7⟩
 |gh Z vs cs=>
  obtain⟨h1,h2,h3,h4⟩:=h;simp only[Ob.YO,a8C]at hi;exact⟨h1,h2.mono hA (fun _ h=>h) (fun _ _ _=>rfl) (fun _ _=>rfl),h3,fun i x hx=>(h4 i x hx).UN (hi x (a6y hx)) hA hH⟩
def Zg{α β:Type}(f:α->Option β):List α->Option (List β)
 | []=>some []
 |x::r=>match f x with
  |some y=>(Zg f r).map fun l=>y::l
  |none=>none
def St.Wk(s:St)(ids:List Nat):Nat->AV->Option IV
 | _, .iv x=>some x
 | _, .nil sz=>some (.Z6 sz [])
 | _, .sl id sz lo len=>if ids.contains id then none else match look s.hp id with
  |some (.list _ xs)=>some (.Z6 sz ((xs.drop lo).take len))
  |some (.ZI Zz xs none)=>some (.Z6 1 (((xs.map fun x=>[IV.Z6 Zz x]).drop lo).take len))
  | _=>none
 | _, .mpr id=>if ids.contains id then none else match look s.hp id with
  |some (.map sk g)=>some (.mp sk g)
  |some (.YA sk sz g none)=>some (.mp sk fun k=>(g k).map fun xs=>[IV.Z6 sz xs])
  | _=>none
 |d+1, .ptr id off=>if ids.contains id then none else match look s.hp id with
  |some (.box cs)=>(Zg (St.Wk s ids d) cs).map fun l=> .pt (l.drop off)
  | _=>none
 | _,_=>none
def Z3.C4(s:St)(ids:List Nat):Z3->Z3
 | .ptr id off=>match s.Wk ids 3 (.ptr id off)with
  |some y=> .val y
  |none=> .ptr id off
 | .val x=> .val x
def St.arg1(s:St)(fr:Bool)(ids:List Nat):AV->AV
 | .iv x=> .iv x
 | .nil sz=> .iv (.Z6 sz [])
 | .fn f a b=>if fr&& !((AV.fn f a b).WM ids)then .fn f (a.map (Z3.C4 s ids)) (b.map (Z3.C4 s ids))else .fn f a b
 |x=>if fr&& !(x.WM ids)then match s.Wk ids 3 x with
  |some y=> .iv y
  |none=>x
  else x
def St.arg(s:St)(fr:Bool)(ids:List Nat):AV->AV
 | .agg cs=> .agg (cs.map (s.arg1 fr ids))
 |x=>s.arg1 fr ids x
structure Mq (P:Program) (fr:Bool) (f:FuncId) (args:List AV) (H:Hp) (res:AV) (H':Hp) (s:St):Prop where
 spec:ZX P fr f args H res H'
 refs:args.all (AV.YO (H.map (·.1)))=true
 sub:∀id o,look H id=some o->look s.hp id=some o
 own:∀id o,look H id=some o->o.YO (H.map (·.1))=true
 keep:∀id o,look H id=some o->∃o',look H' id=some o'/\o.le o'
 new:∀id o,look H' id=some o->look H id=none->look s.hp id=none/\id<1000
structure R7 (P:Program) (fr:Bool) (f:FuncId) (args:List AV) (H:Hp) (R:AV->Hp->Prop) (s:St):Prop where
 spec:Mr P fr f args H R
 refs:args.all (AV.YO (H.map (·.1)))=true
 sub:∀id o,look H id=some o->look s.hp id=some o
 own:∀id o,look H id=some o->o.YO (H.map (·.1))=true
 keep:∀res H',R res H'->∀id o,look H id=some o->∃o',look H' id=some o'/\o.le o'
 new:∀res H',R res H'->∀id o,look H' id=some o->look H id=none->look s.hp id=none/\id<1000
theorem Mq.n{P:Program}{fr:Bool}{f:FuncId}{args:List AV}{H:Hp}{res:AV}{H':Hp}{s:St}(h:Mq P fr f args H res H' s):R7 P fr f args H (fun r K=>r=res/\K=H') s:=
 ⟨h.spec.n,h.refs,h.sub,h.own,fun r K e=>by obtain⟨rfl,rfl⟩:=e;exact h.keep,fun r K e=>by obtain⟨rfl,rfl⟩:=e;exact h.new⟩
theorem CD{α:Type}{l:List (Nat×α)}{k:Nat}{x:α}(h:look l k=some x):(l.map (·.1)).contains k=true:=by
 induction l with
 |nil=>cases h
 |cons p l ih=>
  obtain⟨j,y⟩:=p;simp only[look]at h;split at h
  ·subst_vars;simp
  ·have:=ih h;simp at this⊢;exact .inr this
theorem b6K{α:Type}{l:List (Nat×α)}{k:Nat}(h:(l.map (·.1)).contains k=true):∃x,look l k=some x:=by
 induction l with
 |nil=>simp at h
 |cons p l ih=>
  obtain⟨j,y⟩:=p;simp only[look]
  by_cases e:j=k
  ·exact⟨y,by rw[if_pos e]⟩
  ·rw[if_neg e];refine ih ?_;simp at h⊢
   rcases h with h|h
   ·exact absurd h.symm e
   ·exact h
section
variable{P:Program}{E:En}{n:Nat}{ψ:Pl}{s:St}{a:Act}{w:World}
structure Ff (H H':Hp) (s:St):Prop where
 YN:∀id o,look H id=some o->o.Zf=false
 f5P:∀id o,look H' id=some o->o.Zf=false
 sub:∀id o,look H id=some o->look s.hp id=some o
 keep:∀id o,look H id=some o->∃o',look H' id=some o'/\o.le o'
 new:∀id o,look H' id=some o->look H id=none->look s.hp id=none/\id<1000
theorem R7.sh{P:Program}{fr:Bool}{f:FuncId}{args:List AV}{H:Hp}{R:AV->Hp->Prop}{s:St}(hc:R7 P fr f args H R s){res:AV}{H':Hp}(hR:R res H'):Ff H H' s:=
 ⟨hc.spec.1.1,hc.spec.1.2 res H' hR,hc.sub,hc.keep res H' hR,hc.new res H' hR⟩
theorem Z7.called(h:Z7 E n ψ s a w){fr:Bool}{H:Hp}{res:AV}{H':Hp}(hc:Ff H H' s){A:Nat->Prop}
 (hAI:fr=false->∀b,A b->Im E ψ s.hp b) {w':World} {v:Value} {ZF:Pl}
 (k1:∀b,b<w.heap.size->¬ZD ψ H b->w'.heap[b]? =w.heap[b]?) (k2:w.heap.size<=w'.heap.size) (k3:Rn w w')
 (k4:∀id o,look H id=some o->ZF id=ψ id)
 (k5:∀id o b,look H' id=some o->ZZ ZF id b->(∃o0,look H id=some o0/\ZZ ψ id b)\/w.heap.size<=b)
 (k6:∀id XK o o' b,look H' id=some o->look H' XK=some o'->ZZ ZF id b->ZZ ZF XK b->id=XK) (kS:Ug ZF H' w')
 (k7:∀id o,look H' id=some o->WU (fun b=>((fr=false/\A b)\/w.heap.size<=b)/\¬ZD ZF H' b) ZF H' w' id o)
 (k8:ZL (fun b=>((fr=false/\A b)\/w.heap.size<=b)/\¬ZD ZF H' b) ZF H' w' res v):
 ∃Zj,Z7 E n Zj (s.join H') a w'/\ZL (Im E Zj (s.join H').hp) Zj (s.join H').hp w' res v:=by
 let Zj:Pl:=⟨fun id=>if(look H' id).isSome then ZF id else ψ id,fun id b=>if(look H' id).isSome then ZF.sub id b else ψ.sub id b⟩
 have Xj:∀id,look (s.join H').hp id=(look H' id).or (look s.hp id):=fun id=>b3K _ _ _
 have Z2:∀{k o b},look s.hp k=some o->ZZ ψ k b->b<w.heap.size:=fun hk hb=>h.lt hk hb
 have o1:∀{id o b},look H' id=some o->(ZZ Zj id b↔ZZ ZF id b):=by
  intro id o b ho;simp[ZZ,Zj,ho]
 have o2:∀{id b},look H' id=none->(ZZ Zj id b↔ZZ ψ id b):=by
  intro id b ho;simp[ZZ,Zj,ho]
 have UY:∀{id o},look (s.join H').hp id=some o->(look H' id=some o/\∀b,ZZ Zj id b↔ZZ ZF id b)\/(look H' id=none/\look s.hp id=some o/\∀b,ZZ Zj id b↔ZZ ψ id b):=by
  intro id o ho;rw[Xj]at ho
  cases hh:look H' id with
  |some o'=>rw[hh]at ho;left;exact⟨by simpa using ho,fun b=>o1 hh⟩
  |none=>rw[hh]at ho;right;exact⟨rfl,by simpa using ho,fun b=>o2 hh⟩
 have Fe:U8 ψ Zj s.hp (s.join H').hp:=by
  intro id o ho
  cases hh:look H' id with
  |some o'=>
   cases hH:look H id with
   |some o0=>
    have e:=hc.sub id o0 hH;rw[ho]at e;cases e;obtain⟨o1,g1,g2⟩:=hc.keep id o hH;rw[hh]at g1;cases g1;exact⟨⟨o',by rw[Xj,hh];rfl,g2⟩,by simp[Zj,hh,k4 id o hH]⟩
   |none=>have:=(hc.new id o' hh hH).1;rw[ho]at this;cases this
  |none=>exact⟨⟨o,by rw[Xj,hh];simpa using ho,o.le_refl⟩,by simp[Zj,hh]⟩
 have f6P:∀{b},ZD ψ H b->ZD ψ s.hp b:=by
  rintro b ⟨id,o,ho,hb⟩;exact⟨id,o,hc.sub id o ho,hb⟩
 have f7P:∀{b},b<w.heap.size->ZD Zj (s.join H').hp b->ZD ψ s.hp b:=by
  rintro b hb ⟨id,o,ho,hq⟩
  rcases UY ho with⟨g1,g2⟩|⟨_,g1,g2⟩
  ·rcases k5 id o b g1 ((g2 b).1 hq)with⟨o0,g3,g4⟩|g3
   ·exact⟨id,o0,hc.sub id o0 g3,g4⟩
   ·omega
  ·exact⟨id,o,g1,(g2 b).1 hq⟩
 have hI:∀b,b<w.heap.size->Im E ψ s.hp b->Im E Zj (s.join H').hp b:=fun b hb hi=>⟨hi.1,fun hh=>hi.2 (f7P hb hh)⟩
 have hw:∀b,b<w.heap.size->Im E ψ s.hp b->w'.heap[b]? =w.heap[b]? :=fun b hb hi=>k1 b hb fun hh=>hi.2 (f6P hh)
 have kU:∀b,b<w'.heap.size->(((fr=false/\A b)\/w.heap.size<=b)/\¬ZD ZF H' b)->Im E Zj (s.join H').hp b:=by
  rintro b hb ⟨h1,h2⟩
  rcases h1 with⟨hf,h1⟩|h1
  ·have hi:=hAI hf b h1;refine⟨hi.1,?_⟩;rintro⟨id,o,ho,hq⟩
   rcases UY ho with⟨g1,g2⟩|⟨_,g1,g2⟩
   ·exact h2 ⟨id,o,g1,(g2 b).1 hq⟩
   ·exact hi.2 ⟨id,o,g1,(g2 b).1 hq⟩
  ·refine⟨.inr (.inr (a0N h.grow h1)),?_⟩;rintro⟨id,o,ho,hq⟩
   rcases UY ho with⟨g1,g2⟩|⟨_,g1,g2⟩
   ·exact h2 ⟨id,o,g1,(g2 b).1 hq⟩
   ·have:=Z2 g1 ((g2 b).1 hq);omega
 have Fc:U8 ZF Zj H' (s.join H').hp:=by
  intro id o ho;exact⟨⟨o,by rw[Xj,ho];rfl,o.le_refl⟩,by simp[Zj,ho]⟩
 have RI:∀{id o b},look H' id=some o->ZZ ZF id b->(o.org id∈E.ids/\ZZ E.ψ (o.org id) b)\/E.fresh b:=by
  intro id o b ho hb
  have org:∀{o:Ob},o.Zf=false->o.org id=id:=by intro o h;cases o<;>first|rfl|cases h
  rcases k5 id o b ho hb with⟨o0,p1,p2⟩|p1
  ·have:=h.own id o0 b (hc.sub id o0 p1) p2;rw[org (hc.YN id o0 p1)]at this;rw[org (hc.f5P id o ho)];exact this
  ·exact .inr (.inr (a0N h.grow p1))
 refine⟨Zj,?_,k8.mono kU (fun _ _ _=>rfl) Fc⟩;refine {size:=h.size,defers:=h.defers.mono hI hw,frame:=fun t=>(h.frame t).mono hI hw Fe,YC:=?_,inj:=?_,own:=?_,YU:=?_,par:=?_,old:=?_,grow:=?_,same:=?_}
 ·intro id o ho
  rcases UY ho with⟨g1,g2⟩|⟨g0,g1,g2⟩
  ·exact(k7 id o g1).mono kU (fun _ _ _=>rfl) Fc ⟨by simp[Zj,g1],fun b hb=>by simpa[Zj,g1]using hb⟩ (fun _ _=>rfl)
  ·refine(h.YC id o g1).mono hI hw Fe ⟨by simp[Zj,g0],fun b hb=>by simpa[Zj,g0]using hb⟩ fun b hb=>k1 b (Z2 g1 hb) ?_
   rintro⟨id2,o2,CQ,Qm⟩;have e:=h.inj id id2 o _ b g1 (hc.sub id2 o2 CQ) hb Qm;subst e;obtain⟨o3,g3,_⟩:=hc.keep id o2 CQ;rw[g0]at g3;cases g3
 ·intro i i' o1 o2 b hi Vg hb XH
  rcases UY hi with⟨g1,g2⟩|⟨g0,g1,g2⟩<;>rcases UY Vg with⟨f1,f2⟩|⟨f0,f1,f2⟩<;>rw[g2]at hb<;>rw[f2]at XH
  ·exact k6 i i' o1 o2 b g1 f1 hb XH
  ·rcases k5 i o1 b g1 hb with⟨o0,p1,p2⟩|p1
   ·exact h.inj i i' _ _ b (hc.sub i o0 p1) f1 p2 XH
   ·have:=Z2 f1 XH;omega
  ·rcases k5 i' o2 b f1 XH with⟨o0,p1,p2⟩|p1
   ·exact h.inj i i' _ _ b g1 (hc.sub i' o0 p1) hb p2
   ·have:=Z2 g1 hb;omega
  ·exact h.inj i i' _ _ b g1 f1 hb XH
 ·intro i o1 b hi hb
  rcases UY hi with⟨g1,g2⟩|⟨g0,g1,g2⟩<;>rw[g2]at hb
  ·exact RI g1 hb
  ·exact h.own i o1 b g1 hb
 ·intro i o1 b hi hb
  rcases UY hi with⟨g1,g2⟩|⟨g0,g1,g2⟩
  ·have hb:ZF.sub i b:=by simpa[Zj,g1]using hb
   obtain⟨q1,q2,q3⟩:=kS i o1 b g1 hb;exact⟨q1,q2,fun k=>by simpa[Zj,g1]using q3 k⟩
  ·have hb:ψ.sub i b:=by simpa[Zj,g0]using hb
   obtain⟨q1,q2,q3⟩:=h.YU i o1 b g1 hb;exact⟨q1,a6R q2 k2,fun k=>by simpa[Zj,g0]using q3 k⟩
 ·intro i hi;have hb:=E.big i hi
  cases hh:look H' i with
  |none=>simp only[Zj,hh];exact h.par i hi
  |some o=>
   cases hH:look H i with
   |some o0=>simp only[Zj,hh];simp only[Option.isSome_some,if_true];rw[k4 i o0 hH];exact h.par i hi
   |none=>have:=(hc.new i o hh hH).2;omega
 ·intro b hb hm;rw[k1 b (a6R hb h.grow) ?_]
  ·exact h.old b hb hm
  ·rintro⟨id,o,ho,hq⟩
   rcases h.own id o b (hc.sub id o ho) hq with⟨h1,h2⟩|h1
   ·exact hm (.inl ⟨_,h1,h2⟩)
   ·exact E.no hb hm h1
 ·exact a0N h.grow k2
 ·exact⟨k3.os.trans h.same.1,k3.tape.trans h.same.2.1,k3.output.trans h.same.2.2.1,a0N h.same.2.2.2 k3.drawn⟩
end
def St.args(s:St)(pre:List Z3)(ops:List Operand)(post:List Z3):List AV:=pre.map Z3.av++ops.map s.ev++post.map Z3.av
def pl0:Pl:=⟨fun _=>none,fun _ _=>False⟩
def AV.Ch:AV->Bool
 | .iv _=>true
 | _=>false
def AV.plain:AV->Bool
 | .iv _=>true
 | .agg cs=>cs.all AV.Ch
 | _=>false
theorem c6H{A:Nat->Prop}{ψ:Pl}{H:Hp}{w:World}{x:AV}{v:Value}(hp:x.plain=true)(h:ZL A ψ H w x v):ZL A pl0 [] w x v:=by
 cases h with
 |iv x v h=>exact .iv x v h
 |agg cs vs hl h=>
  refine .agg cs vs hl fun i c hc=>?_
  have h1:=h i c hc;have h2:c.Ch=true:=a8C.1 hp c (a6y hc)
  cases c<;>first|cases h2|skip
  cases h1 with
  |iv _ _ h=>exact .iv _ _ h
 | _=>cases hp
theorem g1x{A:Nat->Prop}{ψ:Pl}{H:Hp}{w:World}{x:AV}{v:Value}(h:ZL A pl0 [] w x v):ZL A ψ H w x v:=h.mono (fun _ _ h=>h) (fun _ _ _=>rfl) fun id o ho=>by cases ho
def ow(P:Program)(l:Nat)(xs:List AV)(Z:GZ)(b:Bool)(Z':GZ):Prop:=∀(A B:Nat->Prop) (w:World) (vs:List Value),(∀k,A k->k<w.heap.size)->(∀k,B k->k<w.heap.size)->(∀k,B k->¬A k)->
 NF Z A B w->vs.length=xs.length->(∀i x,xs[i]? =some x->ZL A pl0 [] w x (vs.getD i undef))->
 ∃fn tmps assign body,(Instr.yield l vs.toArray).run P w= .ok (.round l fn tmps assign body) w/\∀m,RoundIn Fence.wide m P l fn tmps assign body w fun e w'=>∃B':Nat->Prop,e= .returned (.bool b)∧
  (∀k,k<w.heap.size->¬B k->w'.heap[k]? =w.heap[k]?)/\w.heap.size<=w'.heap.size/\Rn w w'/\(∀k,B' k->B k\/w.heap.size<=k)/\(∀k,B' k->k<w'.heap.size)∧
  NF Z' (fun k=>(A k\/w.heap.size<=k)/\¬B' k) B' w'
def c8H(P:Program)(l:Nat)(ops:List Operand)(s:St)(K:St->AV->Prop):Prop:=
 ∃(s1:St) (g:Nat) (Z:GZ) (b:Bool) (Z':GZ) (xs:List AV),Le s s1/\look s1.hp g=some (.gh Z [] [])/\(ops.map s1.ev=xs/\xs.all AV.plain=true)/\ow P l xs Z b Z'/\K (s1.join [(g, .gh Z' [] [])]) (.iv (.v (.bool b)))
def c9H(s:St)(fr:Bool)(ids:List Nat):List AV->List AV->Prop
 | [],[]=>True
 |x::xs,y::ys=>(y=s.arg fr ids x\/∃sz Zz,x= .nil sz/\y= .nil Zz)/\c9H s fr ids xs ys
 | _,_=>False
theorem c0I{s:St}{fr:Bool}{ids:List Nat}:∀(l:List AV),c9H s fr ids l (l.map (s.arg fr ids))
 | []=>trivial
 |x::l=>⟨.inl rfl,c0I l⟩
theorem c1I{s:St}{fr:Bool}{ids:List Nat}:∀{l l':List AV},c9H s fr ids l l'->l'.length=l.length/\∀(i:Nat) (y:AV),l'[i]? =some y->∃x,l[i]? =some x/\(y=s.arg fr ids x\/∃sz Zz,x= .nil sz/\y= .nil Zz)
 | [],[],_=>⟨rfl,fun i y h=>by simp at h⟩
 |x::l,y::l',h=>by
  obtain⟨h1,h2⟩:=h;obtain⟨g1,g2⟩:=c1I h2;refine⟨by simp[g1],fun i z hz=>?_⟩
  cases i with
  |zero=>simp only[a0F,a3y]at hz;subst hz;exact⟨x,rfl,h1⟩
  |succ i=>simpa using g2 i z (by simpa using hz)
 | [],y::l',h=>h.elim
 |x::l,[],h=>h.elim
def KQ(P:Program)(d:Nat)(f:FuncId)(pre:List Z3)(ops:List Operand)(post:List Z3)(y:Option Operand)(s:St)(K:St->AV->Prop):Prop:=
 ∃(s0:St),Le s s0/\∃(fr:Bool) (H:Hp) (R:AV->Hp->Prop) (s1:St),
  s1=(if fr then s0 else s0.YX ((s0.args pre ops post).filter fun x=> !x.YO (H.map (·.1)))).drop d∧
  (match y with|some y=>s1.ev y= .fn f pre post|none=>True)∧
  ∃as1,c9H s1 fr (H.map (·.1)) (s1.args pre ops post) as1/\R7 P fr f as1 H R s1/\∀res H',R res H'->K (s1.join H') res
theorem oR{P:Program}{d:Nat}{f:FuncId}{pre:List Z3}{ops:List Operand}{post:List Z3}{y:Option Operand}{s:St}{K:St->AV->Prop}
 (h:∃(s0:St),Le s s0/\∃(fr:Bool) (H:Hp) (res:AV) (H':Hp) (s1:St),
  s1=(if fr then s0 else s0.YX ((s0.args pre ops post).filter fun x=> !x.YO (H.map (·.1)))).drop d∧
  (match y with|some y=>s1.ev y= .fn f pre post|none=>True)∧
  Mq P fr f ((s1.args pre ops post).map (s1.arg fr (H.map (·.1)))) H res H' s1/\K (s1.join H') res):KQ P d f pre ops post y s K:=by
 obtain⟨s0,h0,fr,H,res,H',s1,a,b,c,k⟩:=h;exact⟨s0,h0,fr,H,_,s1,a,b,_,c0I _,c.n,fun r K e=>by obtain⟨rfl,rfl⟩:=e;exact k⟩
def DB(s:St):List AV->List (Nat×Nat×Operand)->Option (List AV)
 |z,[]=>some z
 |z,(off,n,x)::r=>match (s.ev x).cellsOf with
  |some cs=>if cs.length=n/\off+n<=z.length then DB s (YB z off cs) r else none
  |none=>none
def Ru(s:St)(sz:Nat):List (Nat×Operand)->Option (List (List IV))
 | []=>some []
 |(_,x)::r=>match (s.ev x).cellsOf.bind fun cs=>cs.mapM AV.iv? with
  |some c=>if c.length=sz then(Ru s sz r).map fun q=>c::q else none
  |none=>none
def vtrue:AV:= .iv (.v (.bool true))
def Dk:List AV->Option Nat
 | [.nil sz]=>some sz
 | _=>none
theorem c6I{z:List AV}{sz:Nat}(h:Dk z=some sz):z=[.nil sz]:=by
 unfold Dk at h;split at h
 ·cases h;rfl
 ·cases h
def ZQ(
 P:Program) (d:Nat) (s:St) (K:St->AV->Prop):V7->Prop
 | .QH x=>K s (s.ev x)
 | .GY sz=>K ((s.drop d).add d (.list sz [])) (.sl d sz 0 0)
 | .pick c x y=>match s.ev c with
  | .iv (.v (.bool t))=>K s (if t then s.ev x else s.ev y)
  | _=>False
 | .alloc z=>K ((s.drop d).add d (.box z)) (.ptr d 0)
 | .box x=>match ((s.drop d).ev x).cellsOf with
  |some cs=>K ((s.drop d).add d (.box cs)) (.ptr d 0)
  |none=>False
 | .build z parts=>match DB s z parts with
  |some cs=>K s (.agg cs)
  |none=>False
 | .lit sz len parts=>match Ru ((s.YX (parts.map fun p=>s.ev p.2)).drop d) sz parts with
  |some xs=>K (((s.YX (parts.map fun p=>s.ev p.2)).drop d).add d (.list sz xs)) (.sl d sz 0 len)
  |none=>False
 | .ld x none=>match s.ev x with
  | .ptr id off=>match look s.hp id with
   |some (.box cs)=>match cs[off]? with
    |some y=>K s y
    |none=>False
   | _=>False
  | .ep id _ i off=>match look s.hp id with
   |some (.list _ xs)=>match at2 xs i off with
    |some y=>K s (.iv y)
    |none=>False
   |some (.ZI YH xs hole)=>hole=none/\off=0/\id≠d/\(s.drop d).ev x= .ep id 1 i 0/\look (s.drop d).hp id=some (.ZI YH xs none)/\match xs[i]? with
    |some ys=>K (((s.drop d).add id (.ZI YH xs (some i))).add d (.YN id YH ys)) (.sl d YH 0 ys.length)
    |none=>False
   | _=>False
  | .iv (.pt cs)=>match cs[0]? with
   |some y=>K s (.iv y)
   |none=>False
  | _=>False
 | .ld x (some n)=>match s.ev x with
  | .ptr id off=>match look s.hp id with
   |some (.box cs)=>off+n<=cs.length/\K s (.agg ((cs.drop off).take n))
   | _=>False
  | .ep id _ i off=>match look s.hp id with
   |some (.list _ xs)=>match xs[i]? with
    |some r=>off+n<=r.length/\K s (.agg (((r.drop off).take n).map .iv))
    |none=>False
   | _=>False
  | .iv (.pt cs)=>n<=cs.length/\K s (.agg ((cs.take n).map .iv))
  | _=>False
 | .st x y n=>match s.ev x with
  | .ptr id off=>match look s.hp id,(s.ev y).cellsOf with
   |some (.box cs),some cy=>cy.length=n/\off+n<=cs.length/\cy.all AV.one=true/\K (s.add id (.box (YB cs off cy))) .un
   | _,_=>False
  | .ep id _ i off=>match look (s.YX [s.ev y]).hp id,((s.YX [s.ev y]).ev y).cellsOf.bind fun cs=>cs.mapM AV.iv? with
   |some (.list sz xs),some cy=>match xs[i]? with
    |some r=>(s.YX [s.ev y]).ev x= .ep id sz i off/\cy.length=n/\off+n<=r.length/\K ((s.YX [s.ev y]).add id (.list sz (xs.set i (YB r off cy)))) .un
    |none=>False
   |some (.ZI YH xs hole),_=>match s.ev y with
    | .sl d' Zz 0 len=>match look s.hp d' with
     |some o=>match o.TQ with
      |some (_,ys)=>look s.hp id=some (.ZI YH xs hole)/\(n=1/\off=0)/\Zz=YH/\d'<1000/\d'≠id/\len=ys.length/\(o.org?=none\/o.org?=some id)/\hole=some i∧
       K ((s.kill d').add id (.ZI YH (xs.set i ys) none)) .un
      |none=>False
     |none=>False
    | _=>False
   | _,_=>False
  | _=>False
 | .oO x=>match s.ev x with
  | .ptr id off=>K s (.ptr id off)
  | .ep id sz i off=>K s (.ep id sz i off)
  | .iv (.pt cs)=>K s (.iv (.pt cs))
  | _=>False
 | .bin op x y=>match s.ev x,s.ev y with
  | .iv (.v u), .iv (.v v)=>match YT op u v with
   |some r=>K s (.iv (.v r))
   |none=>False
  | _,_=>False
 | .beq neg x y=>match s.ev x,s.ev y with
  | .iv (.v (.bool u)), .iv (.v (.bool v))=>K s (.iv (.v (.bool (if neg then u != v else u==v))))
  | _,_=>False
 | .peq neg x y=>match s.ev x,s.ev y with
  | .iv (.v (.pointer none)), .iv (.v (.pointer none))=>K s (.iv (.v (.bool (!neg))))
  | .iv (.v (.pointer none)), .ptr .. =>K s (.iv (.v (.bool neg)))
  | .iv (.v (.pointer none)), .iv (.pt _)=>K s (.iv (.v (.bool neg)))
  | .ptr .., .iv (.v (.pointer none))=>K s (.iv (.v (.bool neg)))
  | .iv (.pt _), .iv (.v (.pointer none))=>K s (.iv (.v (.bool neg)))
  | _,_=>False
 | .eqs neg ks x y=>match s.ev x,s.ev y with
  | .agg cs, .agg ds=>match TY ks cs ds with
   |some b=>K s (.iv (.v (.bool (if neg then !b else b))))
   |none=>False
  | _,_=>False
 | .un op x=>match s.ev x with
  | .iv (.v v)=>match unV op v with
   |some r=>K s (.iv (.v r))
   |none=>False
  | _=>False
 | .cvt k x=>match s.ev x with
  | .iv (.v (.int _ m))=>K s (.iv (.v (.int k (k.wrap m))))
  | _=>False
 | .cut sz x lo hi=>match s.ev x with
  | .iv (.Z6 Zz xs)=>match s.bound 0 lo,s.bound xs.length hi with
   |some l,some h=>Zz=sz/\0<=l/\l<=h/\h<=xs.length/\K s (.iv (.Z6 sz ((xs.drop l.toNat).take (h-l).toNat)))
   | _,_=>False
  | .sl id Zz o m=>match s.bound 0 lo,s.bound m hi with
   |some l,some h=>Zz=sz/\0<=l/\l<=h/\h<=m/\K s (.sl id sz (o+l.toNat) (h-l).toNat)
   | _,_=>False
  | .nil Zz=>match s.bound 0 lo,s.bound 0 hi with
   |some l,some h=>l=0/\h=0/\K s (.nil Zz)
   | _,_=>False
  | _=>False
 | .fa off x=>match s.ev x with
  | .ptr id o=>K s (.ptr id (o+off))
  | .ep id sz i o=>K s (.ep id sz i (o+off))
  | .iv (.pt cs)=>K s (.iv (.pt (cs.drop off)))
  | _=>False
 | .Wq off none x=>match s.ev x with
  | .agg cs=>match cs[off]? with
   |some y=>K s y
   |none=>False
  | _=>False
 | .Wq off (some n) x=>match s.ev x with
  | .agg cs=>off+n<=cs.length/\K s (.agg ((cs.drop off).take n))
  | _=>False
 | .ia sz x i=>match s.ev x,s.ev i with
  | .iv (.Z6 Zz xs), .iv (.v (.int _ m))=>Zz=sz/\0<=m/\match xs[m.toNat]? with
   |some r=>K s (.iv (.pt r))
   |none=>False
  | .sl id Zz o k, .iv (.v (.int _ m))=>Zz=sz/\0<=m/\m<k/\K s (.ep id sz (o+m.toNat) 0)
  | _,_=>False
 | .is x i=>match s.ev x,s.ev i with
  | .iv (.v (.string t)), .iv (.v (.int _ m))=>0<=m/\match t[m.toNat]? with
   |some b=>K s (.iv (.v (.int .u8 b.toNat)))
   |none=>False
  | _,_=>False
 | .ix n x i=>match s.ev x,s.ev i with
  | .agg cs, .iv (.v (.int _ m))=>0<=m/\m<n/\match cs[m.toNat]? with
   |some y=>K s y
   |none=>False
  | _,_=>False
 | .ext i x=>match s.ev x with
  | .Zp vs=>match vs[i]? with
   |some y=>K s y
   |none=>False
  | _=>False
 | .len x=>match s.ev x with
  | .iv (.Z6 _ xs)=>K s (.iv (.v (.int .i64 xs.length)))
  | .sl _ _ _ m=>K s (.iv (.v (.int .i64 m)))
  | .nil _=>K s (.iv (.v (.int .i64 0)))
  | _=>False
 | .lens x=>match s.ev x with
  | .iv (.v (.string t))=>K s (.iv (.v (.int .i64 t.size)))
  | _=>False
 | .app sz bytes x y=>match s.ev x,s.elems (s.ev y)with
  | .sl id Zz lo m,some (YH,ys)=>match look s.hp id with
   |some o=>match o.TQ with
    |some (_,xs)=>Zz=sz/\(YH=sz\/ys=[])/\id<1000/\lo+m=xs.length/\(m+ys.length)*bytes<=2^47/\m+ys.length<2^62∧
     K ((s.lone id).add id (o.Xn sz (xs.drop lo++ys))) (.sl id sz 0 (m+ys.length))
    |none=>False
   |none=>False
  | .nil _,some (YH,ys)=>(YH=sz\/ys=[])/\ys.length*bytes<=2^47/\ys.length<2^62/\K ((s.drop d).add d (.list sz ys)) (.sl d sz 0 ys.length)
  | _,_=>False
 | .mm mx xs=>match c5S mx (xs.map s.ev)with
  |some (k,m)=>K s (.iv (.v (.int k m)))
  |none=>False
 | .VO f first caps=>match (first.map s.ev).mapM AV.cap,(caps.map s.ev).mapM AV.cap with
  |some a,some b=>K s (.fn f a b)
  | _,_=>False
 | .call f args=>KQ P d f [] args [] none s K
 | .PG neg x=>match s.ev x with
  | .nil _=>K s (.iv (.v (.bool (!neg))))
  | .sl _ _ _ m=>∀b:Bool,(0<m->b=false)->K s (.iv (.v (.bool (if neg then !b else b))))
  | .iv (.Z6 _ xs)=>∀b:Bool,(xs≠[]->b=false)->K s (.iv (.v (.bool (if neg then !b else b))))
  | _=>False
 | .mks sz bytes z l c=>match Dk z with
  |some Zz=>match s.ev l,s.ev c with
   | .iv (.v (.int _ m)), .iv (.v (.int _ q))=>0<=m/\q=m/\m<2^62/\(bytes:Int)*m<=2^47/\sz=1/\K ((s.drop d).add d (.ZI Zz (a2N m.toNat []) none)) (.sl d 1 0 m.toNat)
   | _,_=>False
  |none=>match s.ev l,s.ev c,z.mapM AV.iv? with
   | .iv (.v (.int _ m)), .iv (.v (.int _ q)),some zi=>0<=m/\q=m/\m<2^62/\(bytes:Int)*m<=2^47/\K ((s.drop d).add d (.list sz (a2N m.toNat zi))) (.sl d sz 0 m.toNat)
   | _,_,_=>False
 | .XB sk=>K ((s.drop d).add d (.map sk fun _=>none)) (.mpr d)
 | .UE sk z m k ok=>match (s.drop d).Qw ((s.drop d).ev m)with
  |some (id,Xi,sz,g,hole)=>match SB ((s.drop d).ev k),z with
   |some (S3,kk),[.nil Zz]=>ok=false/\Xi=sk/\S3=(sk.1,sk.2.1)/\Zz=sz/\hole=none/\match g kk with
    |none=>K (s.drop d) (.nil sz)
    |some xs=>K (((s.drop d).add id (.YA sk sz (ZH g kk none) (some kk))).add d (.YN id sz xs)) (.sl d sz 0 xs.length)
   | _,_=>False
  |none=>match s.mapOf (s.ev m),SB (s.ev k)with
   |some (Xi,g),some (S3,kk)=>Xi=sk/\S3=(sk.1,sk.2.1)/\K s (Nz z sk.2.2 ok (g kk))
   | _,_=>False
 | .Yy sk m k x=>match s.Qw (s.ev m)with
  |some (id,Xi,sz,g,hole)=>match SB (s.ev k),s.ev x with
   |some (
    S3,kk), .sl d' Zz 0 len=>match look s.hp d' with
    |some o=>match o.TQ with
     |some (_,xs)=>Xi=sk/\S3=(sk.1,sk.2.1)/\Zz=sz/\d'<1000/\d'≠id/\len=xs.length/\(o.org?=none\/o.org?=some id)∧
      (hole=some kk\/(hole=none/\g kk=none))/\K ((s.kill d').add id (.YA sk sz (ZH g kk (some xs)) none)) .un
     |none=>False
    |none=>False
   | _,_=>False
  |none=>match (s.YX [s.ev x]).oz ((s.YX [s.ev x]).ev m),SB ((s.YX [s.ev x]).ev k),((s.YX [s.ev x]).ev x).cellsOf.bind fun cs=>cs.mapM AV.iv? with
   | .mpr id,some (S3,kk),some c=>match look (s.YX [s.ev x]).hp id with
    |some (.map Xi g)=>Xi=sk/\S3=(sk.1,sk.2.1)/\FW ((s.YX [s.ev x]).ev x)=sk.2.2/\K ((s.YX [s.ev x]).add id (.map sk (ZH g kk (some c)))) .un
    | _=>False
   | _,_,_=>False
 | .IC sk z m k=>match s.ev m,SB (s.ev k),Zg AV.iv? z with
  | .mpr id,some (S3,kk),some zi=>match look s.hp id with
   |some (.map Xi g)=>Xi=sk/\S3=(sk.1,sk.2.1)/\∀n:Int,K (s.add id (.WE sk (ZH g kk (some ((g kk).getD zi))) n kk)) (.Zp [S5 sk.2.2 (((g kk).getD zi).map .iv), .iv (.v (.int .i64 n))])
   | _=>False
  | _,_,_=>False
 | .est m st x=>match (s.YX [s.ev x]).ev m,(s.YX [s.ev x]).ev st,((s.YX [s.ev x]).ev x).cellsOf.bind fun cs=>cs.mapM AV.iv? with
  | .mpr id, .iv (.v (.int _ n')),some c=>match look (s.YX [s.ev x]).hp id with
   |some (.WE sk g n kk)=>n'=n/\FW ((s.YX [s.ev x]).ev x)=sk.2.2/\K ((s.YX [s.ev x]).add id (.map sk (ZH g kk (some c)))) .un
   | _=>False
  | _,_,_=>False
 | .QB sk x=>match ((s.YX [s.ev x]).drop d).ev x with
  | .iv (.mp Dj g)=>Dj=sk/\∀L:List (List Value),L.Nodup->(∀k,k∈L↔g k≠none)->(∀k∈L,k.mapM Y0=some sk.2.1)->K (((s.YX [s.ev x]).drop d).add d (.iter sk g L none)) (.ptr d 0)
  | _=>False
 | .nxt x=>match s.ev x with
  | .ptr id 0=>match look s.hp id with
   |some (.iter sk g left last)=>(left=[]->K s (.Zp [.iv (.v (.bool false))]))∧
    ∀k c,k∈left->g k=some c->k.mapM Y0=some sk.2.1->K (s.add id (.iter sk g (Ou k left) (some k))) (.Zp [vtrue,S5 sk.1 (k.map fun v=> .iv (.v v)),S5 sk.2.2 (c.map .iv)])
   | _=>False
  | _=>False
 | .SK x=>match s.ev x with
  | .ptr id 0=>match look s.hp id with
   |some (.iter sk g left (some k))=>∀c,g k=some c->K s (.Zp [S5 sk.1 (k.map fun v=> .iv (.v v)),S5 sk.2.2 (c.map .iv)])
   | _=>False
  | _=>False
 | .FY sk m k=>match s.ev m,SB (s.ev k)with
  | .mpr id,some (S3,kk)=>match look s.hp id with
   |some (.map Xi g)=>Xi=sk/\S3=(sk.1,sk.2.1)/\K (s.add id (.map sk (ZH g kk none))) (.Zp [])
   | _=>False
  | _,_=>False
 | .cpy sz x y=>match s.ev x,s.elems (s.ev y)with
  | .sl id Zz lo m,some (YH,ys)=>match look s.hp id with
   |some (.list IG xs)=>(xs≠[]/\lo=0)/\(Zz=sz/\IG=sz/\YH=sz)/\m=xs.length/\ys.length=m/\K (s.add id (.list sz ys)) (.iv (.v (.int .i64 m)))
   | _=>False
  | _,_=>False
 | .clr sz z x=>match s.ev x,z.mapM AV.iv? with
  | .sl id Zz lo m,some zi=>match look s.hp id with
   |some (.list IG xs)=>(Zz=sz/\IG=sz)/\(0<m/\lo+m<=xs.length)/\K (s.add id (.list sz (xs.take lo++a2N m zi++xs.drop (lo+m)))) (.Zp [])
   | _=>False
  | _,_=>False
 | .FX x=>match s.mapOf (s.ev x)with
  |some (_,g)=>∀n:Nat,(n=0↔∀k,g k=none)->K s (.iv (.v (.int .i64 n)))
  | _=>False
 | .Zc x args=>match s.ev x with
  | .fn f first caps=>XV P f=true/\KQ P d f first args caps (some x) s K
  | .iv (.v (.func (.yield l) vf vc))=>vf= #[]/\vc= #[]/\c8H P l args s K
  | .iv (.v (.func (.func f) vf vc))=>vf= #[]/\vc= #[]/\XV P f=true/\KQ P d f [] args [] none s K
  | _=>False
theorem e9m{v:Value}(h:v.oneCell'=true):v.cells= #[v]:=by cases v<;>simp_all[Value.oneCell',Value.cells]
theorem Yq.one{A:Nat->Prop}{w:World}{x:IV}{v:Value}(h:Yq A w x v):v.oneCell'=true:=by
 cases h with
 |v x h1=>exact h1
 | _=>rfl
theorem ZL.one{A:Nat->Prop}{ψ:Pl}{H:Hp}{w:World}{x:AV}{v:Value}(h:ZL A ψ H w x v)(hx:x.one=true):v.oneCell'=true:=by
 cases h with
 |iv x v h=>exact h.one
 |agg cs vs hl h=>cases hx
 |Zp cs vs hl h=>cases hx
 |un=>cases hx
 |junk v=>cases hx
 | _=>rfl
theorem CK{A:Nat->Prop}{ψ:Pl}{H:Hp}{w:World}(sz:Nat)(v:Value):ZL A ψ H w (G1 sz v) v:=by
 unfold G1;split
 ·exact .nil sz
 ·exact .junk _
 ·exact .junk _
 ·rename_i h1 h2 h3;refine .iv _ _ (.v v ?_)
  cases v<;>simp_all[Value.oneCell']
theorem e1n{A:Nat->Prop}{ψ:Pl}{H:Hp}{w:World}(v:Value):ZL A ψ H w (AV.const v) v:=by
 unfold AV.const;split
 ·rename_i cs
  refine .agg _ _ (by simp) fun i c hc=>?_
  rw[a1C]at hc
  cases hi:cs.toList[i]? with
  |none=>rw[hi]at hc;cases hc
  |some x=>
   rw[hi]at hc;cases hc
   have:cs.getD i undef=x:=by
    rw[Array.getElem?_toList]at hi;simp[a3E,hi]
   rw[this];exact CK 0 x
 ·exact CK 0 v
def Dv(P:Program)(o:Oper)(a:Act)(next:Act->World->Prop):Result Next->Prop
 | .ok (.value v) w'=>next (a.put o.dst v) w'
 | .ok .skip w'=>next (a.put o.dst undef) w'
 | .ok (.enter f args) w'=>Calls P f args w' fun e IK=>∃v,e= .returned v/\next (a.put o.dst v) IK
 | .ok (.round l f tmps assign body) w'=>∀m,RoundIn Fence.wide m P l f tmps assign body w' fun e IK=>∃v,e= .returned v/\next (a.put o.dst v) IK
 | _=>False
def MQ(P:Program)(o:Oper)(a:Act)(w:World)(next:Act->World->Prop):Prop:=Dv P o a next ((execOp a.eval o).run P w)
theorem e2n{P:Program}{o:Oper}{a:Act}{K K':Act->World->Prop}(hK:∀a w,K a w->K' a w):∀{r:Result Next},Dv P o a K r->Dv P o a K' r:=by
 intro r h
 cases r with
 |ok x w'=>
  cases x<;>simp only[Dv]at h⊢
  ·exact hK _ _ h
  ·exact hK _ _ h
  ·exact Calls.mono h fun e IK ⟨v,h1,h2⟩=>⟨v,h1,hK _ _ h2⟩
  ·exact fun m=>RoundIn.mono (h m) fun e IK ⟨v,h1,h2⟩=>⟨v,h1,hK _ _ h2⟩
 |halt x w'=>exact h.elim
def mD:Option Nat->Fence
 |none=>Fence.wide
 |some l=>Fence.wide.inRound l
theorem e4n{ro:Option Nat}{m:Nat}{P:Program}{f:FuncId}{args:Array Value}{w:World}{R:Ending->World->Prop}(h:Calls P f args w R):CallsIn (mD ro) m P f args w R:=by
 have:=(callsIn_wide (n:=m)).2 h
 cases ro with
 |none=>exact this
 |some l=>exact this
theorem e5n{P:Program}{o:Oper}{a:Act}{w:World}{K:Act->World->Prop}(VM:∀c,o.op≠ .defer c)(h:MQ P o a w K)(ro:Option Nat)(m:Nat)(Q:Exit->Act->World->Prop):o.wpIn (mD ro) m P a w K Q:=by
 refine⟨fun _ _=>by cases ro<;>trivial,?_⟩;rw[Oper.semAt_eq _ _ _ VM];unfold MQ at h;generalize (execOp a.eval o).run P w=r at h
 have hd:(mD ro).depth.isSome=true->1<=m:=by cases ro<;>(intro h;cases h)
 cases r with
 |ok x w'=>
  cases x<;>simp only[Dv]at h<;>simp only[Oper.uponIn]
  ·exact h
  ·exact h
  ·exact⟨hd,e4n (Calls.mono h fun e IK ⟨v,h1,h2⟩=>by subst h1;exact h2)⟩
  ·refine⟨hd,?_⟩
   have:=RoundIn.mono (R':=fun| .returned v,IK=>K (a.put o.dst v) IK| .panicked Ky,IK=>Q (.panic Ky) a IK| .outgrown,_=>LetsOut Q) (h (m-1)) fun e IK ⟨v,h1,h2⟩=>by subst h1;exact h2
   cases ro with
   |none=>exact this
   |some l=>exact this
 |halt x w'=>exact h.elim
section
variable{P:Program}{E:En}{n:Nat}{ψ:Pl}{s:St}{a:Act}{w:World}
theorem Z7.ev(h:Z7 E n ψ s a w)(x:Operand):ZL (Im E ψ s.hp) ψ s.hp w (s.ev x) (a.eval x):=by
 cases x with
 |tmp t=>exact h.frame t
 |const v=>exact e1n v
 |global g=>exact .junk _
 |func f=>exact .fn f [] [] #[] #[] rfl rfl (by simp) (by simp)
def XX(P:Program)(E:En)(n:Nat)(o:Oper)(a:Act)(w:World)(K:St->AV->Prop):Prop:=
 ∀(K':Act->World->Prop) (Q:Exit->Act->World->Prop),
  (∀s' av ZF v w',K s' av->Z7 E n ZF s' a w'->ZL (Im E ZF s'.hp) ZF s'.hp w' av v->K' (a.put o.dst v) w')->MQ P o a w K'
theorem Sh{o:Oper}{K:St->AV->Prop}{v:Value}{w':World}{s':St}{av:AV}{ZF:Pl}
 (hr:(execOp a.eval o).run P w= .ok (.value v) w') (hk:K s' av) (hs:Z7 E n ZF s' a w') (hv:ZL (Im E ZF s'.hp) ZF s'.hp w' av v):
 XX P E n o a w K:=by
 intro K' Q h;unfold MQ;rw[hr];exact h s' av ZF v w' hk hs hv
theorem oY{o:Oper}{K:St->AV->Prop}{w':World}{s':St}{ZF:Pl}
 (hr:(execOp a.eval o).run P w= .ok .skip w') (hk:K s' .un) (hs:Z7 E n ZF s' a w'):XX P E n o a w K:=by
 intro K' Q h;unfold MQ;rw[hr];exact h s' .un ZF undef w' hk hs .un
theorem e8n{o:Oper}{K:St->AV->Prop}{v:Value}{av:AV}(h:Z7 E n ψ s a w)
 (hr:(execOp a.eval o).run P w= .ok (.value v) w) (hk:K s av) (hv:ZL (Im E ψ s.hp) ψ s.hp w av v):XX P E n o a w K:=
 Sh hr hk h hv
structure XR (P:Program) (E:En) (n:Nat) (o:Oper) (a:Act) (w:World) (K:St->AV->Prop):Prop where
 does:XX P E n o a w K
 any:∃v,∀u,(execOp a.eval o).run P u= .ok (.value v) u
theorem VZ{o:Oper}{K:St->AV->Prop}{v:Value}{av:AV}(h:Z7 E n ψ s a w)
 (hr:∀u,(execOp a.eval o).run P u= .ok (.value v) u) (hk:K s av) (hv:ZL (Im E ψ s.hp) ψ s.hp w av v):XR P E n o a w K:=
 ⟨e8n h (hr w) hk hv,v,hr⟩
theorem getD_some{α:Type}{c:Array α}{i:Nat}{d:α}(h:i<c.size):c[i]? =some (c.getD i d):=by
 simp[a3E,h]
theorem UB{A:Nat->Prop}{ψ:Pl}{H:Hp}{w:World}{x:Value}(h:x.oneCell'=true):ZL A ψ H w (.iv (.v x)) x:= .iv _ _ (.v x h)
theorem e1o(w:World){t:TypeId}{d:TypeDesc}(h:P.underlying t=some d):(isAgg t).run P w= .ok (XT P t) w:=by
 unfold isAgg XT;simp only[underlying,Sem.run_bind,run_program,Result.andThen_ok,h,Sem.run_pure]
 cases d<;>rfl
theorem run_sizeOf(w:World){t:TypeId}{k:Nat}(h:XY P t=some k):(sizeOf t).run P w= .ok k w:=by
 unfold XY at h
 cases hi:P.info? t with
 |none=>rw[hi]at h;cases h
 |some i=>rw[hi]at h;cases h;simp[sizeOf,typeInfo,hi]
theorem run_underlying(w:World){t:TypeId}{d:TypeDesc}(h:P.underlying t=some d):(underlying t).run P w= .ok d w:=by
 simp[underlying,h]
theorem Dz(b o k:Nat):Addr.add ⟨b,o,none⟩ k=⟨b,o+k,none⟩:=by
 unfold Addr.add;split<;>simp_all
theorem e3o(w:World)(b o:Nat):∀(k i:Nat) (acc:Array Value) (vs:List Value),vs.length=k->
 (∀j,j<k->w.cell? ⟨b,o+(i+j),none⟩=vs[j]?)->(loadCellsFrom ⟨b,o,none⟩ i k acc).run P w= .ok (acc++vs.toArray) w:=by
 intro k
 induction k with
 |zero=>intro i acc vs hl _;cases vs with|nil=>simp[loadCellsFrom]|cons=>simp at hl
 |succ k ih=>
  intro i acc vs hl h
  cases vs with
  |nil=>simp at hl
  |cons v vs=>
   have h0:=h 0 (by omega);simp only[b1H,a0F]at h0;simp only[loadCellsFrom,Sem.run_bind,run_load,Dz,h0,Result.andThen_ok]
   rw[ih (i+1) (acc.push v) vs (by simpa using hl) (fun j hj=>by
    have:=h (j+1) (by omega);simp only[a5J]at this
    rw[<-this,show o+(i+1+j)=o+(i+(j+1))from by omega])]
   simp
theorem e4o(w:World)(b o:Nat)(vs:List Value)(h:∀j,j<vs.length->w.cell? ⟨b,o+j,none⟩=vs[j]?):
 (loadCells ⟨b,o,none⟩ vs.length).run P w= .ok vs.toArray w:=by
 unfold loadCells;rw[e3o w b o vs.length 0 #[] vs rfl (fun j hj=>by rw[b5D];exact h j hj)];simp
theorem sure(a:Addr):(Instr.sureAddr (.pointer (some a)):Sem Addr)=Sem.pure a:=rfl
theorem e5o(w:World){t:TypeId}{d:TypeDesc}(hd:P.underlying t=some d)(hg:XT P t=false){b o:Nat}{v:Value}(hc:w.cell? ⟨b,o,none⟩=some v):
 (Instr.loadAt t (.pointer (some ⟨b,o,none⟩))).run P w= .ok v w:=by
 simp only[Instr.loadAt,sure,Sem.run_bind,Sem.run_pure',Result.andThen_ok,loadVar,e1o w hd,hg,a1N,if_false,run_load,hc]
theorem e6o(w:World){t:TypeId}{d:TypeDesc}(hd:P.underlying t=some d)(hg:XT P t=true){b o:Nat}(vs:List Value)
 (hn:XY P t=some vs.length) (hc:∀j,j<vs.length->w.cell? ⟨b,o+j,none⟩=vs[j]?):
 (Instr.loadAt t (.pointer (some ⟨b,o,none⟩))).run P w= .ok (.agg vs.toArray) w:=by
 simp only[Instr.loadAt,sure,Sem.run_bind,Sem.run_pure',Result.andThen_ok,loadVar,e1o w hd,hg,if_true,run_sizeOf w hn,e4o w b o vs hc,Sem.run_pure]
theorem e7o{A:Nat->Prop}{H:Hp}{cs:List AV}{c:Array Value}{off k:Nat}(h:∀i x,cs[i]? =some x->ZL A ψ H w x (c.getD i undef))(hk:off+k<=cs.length)(hc:cs.length<=c.size):
 ZL A ψ H w (.agg ((cs.drop off).take k)) (.agg ((c.toList.drop off).take k).toArray):=by
 refine .agg _ _ (by simp;omega) fun i x hx=>?_
 rw[a8R]at hx;split at hx
 ·rename_i hi;rw[a8M]at hx;have:=h _ _ hx;rw[b4K]
  have e:((c.toList.drop off).take k).getD i undef=c.getD (off+i) undef:=by
   simp[a7V,a8R,hi,a8M,a3E]
  rw[e];exact this
 ·cases hx
theorem e8o{dst:Option Nat}{t:TypeId}{x:Operand}{ty:TypeId}{pos:String}{af:Array Edge}{g:Option (Nat×Bool)}{r:V7}{d:Nat}{K:St->AV->Prop}
 (hc:comp P ⟨dst, .load t x,ty,pos,af,g⟩=some r) (h:Z7 E n ψ s a w) (hk:ZQ P d s K r) (YQ:∀id sz i off z xs hole,s.ev x= .ep id sz i off->look s.hp id≠some (.ZI z xs hole)):
 ∃v av,(∀u,Ext w u->(Instr.loadAt t (a.eval x)).run P u= .ok v u)/\K s av/\ZL (Im E ψ s.hp) ψ s.hp w av v:=by
 simp only[comp]at hc
 cases hu:P.underlying t with
 |none=>rw[hu]at hc;cases hc
 |some dd=>
  have hx:=h.ev x;simp only[hu,a5V,a9J]at hc
  by_cases hg:XT P t=true
  ·rw[if_pos hg]at hc
   cases hi:XY P t with
   |none=>rw[hi]at hc;cases hc
   |some k=>
    rw[hi]at hc;simp only[a8H,a3y]at hc;subst hc;simp only[ZQ]at hk;generalize s.ev x=ax at hx hk;generalize a.eval x=vx at hx
    cases hx with
    |ptr id off b q o ho hb=>
     simp only[ho]at hk
     cases o with
     |box cs=>
      obtain⟨hl,hk⟩:=hk;obtain⟨b',c,e,h1,h2,h3,h4⟩:=h.YC id _ ho;rw[h1]at hb;cases hb
      have hlen:((c.toList.drop off).take k).length=k:=by simp;omega
      refine⟨_,_,(fun u hx=>e6o u hu hg ((c.toList.drop off).take k) (by rw[hlen];exact hi) fun j hj=>hx.EC (?_:w.cell? _=_) (by simpa using hj)),hk,(e7o h4 hl (by omega))⟩;rw[hlen]at hj;rw[d2A h2];simp[a8R,hj,a8M]
     | _=>exact hk.elim
    |ep id sz i off b q o m ho he Vg hb=>
     simp only[ho]at hk
     cases o with
     |list Zz xs=>
      simp only[Ob.dim,a3y,a2L]at he;obtain⟨hz,EH⟩:=he;have hz:=hz.symm;subst hz;subst EH;simp only at hk
      cases hr:xs[i]? with
      |none=>rw[hr]at hk;exact hk.elim
      |some r=>
       rw[hr]at hk;obtain⟨hl,hk⟩:=hk;obtain⟨h0,h5⟩:=h.YC id _ ho
       rcases h5 with⟨h1,_⟩|⟨b',q',c,e,h1,h2,SX,h3,h4⟩
       ·rw[h1]at hb;cases hb
       rw[h1]at hb;cases hb;have mZ:=h0 r (a6y hr);have hm:(i+1)*sz<=xs.length*sz:=a0G sz (by omega)
       have e2:(i+1)*sz=i*sz+sz:=by rw[a4N];omega
       have hlen:((c.toList.drop (q.1+(i*sz+off))).take k).length=k:=by simp;omega
       refine⟨_,_,(fun u hx=>e6o u hu hg ((c.toList.drop (q.1+(i*sz+off))).take k) (by rw[hlen];exact hi) fun j hj=>hx.EC (?_:w.cell? _=_) (by simpa using hj)),hk,?_⟩
       ·rw[hlen]at hj;rw[d2A h2];simp[a8R,hj,a8M]
       ·refine .agg _ _ (by simp;omega) fun j y hy=>?_
        rw[a1C,a8R]at hy;split at hy
        ·rename_i hj;rw[a8M]at hy
         cases hrj:r[off+j]? with
         |none=>rw[hrj]at hy;cases hy
         |some z=>
          rw[hrj]at hy;cases hy;rw[b4K]
          have e:((c.toList.drop (q.1+(i*sz+off))).take k).getD j undef=c.getD (q.1+(i*sz+(off+j))) undef:=by
           simp[a7V,a8R,hj,a8M,a3E,b5O]
          rw[e];exact .iv _ _ (h4 i (off+j) z (mX hr hrj))
        ·cases hy
     | _=>exact hk.elim
    |iv y v hy=>
     cases hy with
     |pt cs b off vs hcc kJ=>
      obtain⟨hl,hk⟩:=hk
      have hlen:((a7I k).map vs).length=k:=by simp
      refine⟨_,_,(fun u hx=>e6o u hu hg ((a7I k).map vs) (by rw[hlen];exact hi) fun j hj=>hx.EC (?_:w.cell? _=_) (by simpa using hj)),hk,?_⟩
      ·rw[hlen]at hj;rw[(hcc j cs[j] (a4G (by omega))).2];simp[hj]
      ·refine .agg _ _ (by simp;omega) fun j y hy=>?_
       rw[a1C,a8R]at hy;split at hy
       ·rename_i hj
        cases hrj:cs[j]? with
        |none=>rw[hrj]at hy;cases hy
        |some z=>
         rw[hrj]at hy;cases hy
         have e:((a7I k).map vs).toArray.getD j undef=vs j:=by
          rw[b4K];simp[a7V,hj]
         rw[e];exact .iv _ _ (kJ j z hrj)
       ·cases hy
     | _=>exact hk.elim
    | _=>exact hk.elim
  ·have hg:XT P t=false:=by simpa using hg
   simp only[hg,a1N,if_false]at hc
   have hc:V7.ld x none=r:=by simpa using hc
   subst hc;simp only[ZQ]at hk;generalize hax:s.ev x=ax at hx hk;generalize a.eval x=vx at hx
   cases hx with
   |ptr id off b q o ho hb=>
    simp only[ho]at hk
    cases o with
    |box cs=>
     simp only at hk
     cases hr:cs[off]? with
     |none=>rw[hr]at hk;exact hk.elim
     |some y=>
      rw[hr]at hk;obtain⟨b',c,e,h1,h2,h3,h4⟩:=h.YC id _ ho;rw[h1]at hb;cases hb
      have Z2:off<c.size:=by rw[h3];exact(a5y.1 hr).1
      exact⟨_,_,(fun u hx=>e5o u hu hg (hx.cell (G2 h2 Z2))),hk,(h4 off y hr)⟩
    | _=>exact hk.elim
   |ep id sz i off b q o m ho he Vg hb=>
    simp only[ho]at hk
    cases o with
    |list Zz xs=>
     simp only[Ob.dim,a3y,a2L]at he;obtain⟨hz,EH⟩:=he;have hz:=hz.symm;subst hz;subst EH;simp only at hk
     cases hr:at2 xs i off with
     |none=>rw[hr]at hk;exact hk.elim
     |some y=>
      rw[hr]at hk;obtain⟨h0,h5⟩:=h.YC id _ ho
      rcases h5 with⟨h1,_⟩|⟨b',q',c,e,h1,h2,SX,h3,h4⟩
      ·rw[h1]at hb;cases hb
      rw[h1]at hb;cases hb;obtain⟨r,QP,KC⟩:=IE hr;have mZ:=h0 r (a6y QP);have Ny:=(a5y.1 KC).1;have hm:(i+1)*sz<=xs.length*sz:=a0G sz (by omega)
      have e2:(i+1)*sz=i*sz+sz:=by rw[a4N];omega
      exact⟨_,_,(fun u hx=>e5o u hu hg (hx.cell (G2 h2 (by omega)))),hk,(.iv _ _ (h4 i off y hr))⟩
    |ZI z xs hole=>exact absurd ho (YQ _ _ _ _ _ _ _ hax)
    | _=>exact hk.elim
   |iv y v hy=>
    cases hy with
    |pt cs b off vs hcc kJ=>
     simp only at hk
     cases hr:cs[0]? with
     |none=>rw[hr]at hk;exact hk.elim
     |some y=>
      rw[hr]at hk;have:=(hcc 0 y hr).2;exact⟨_,_,(fun u hx=>e5o u hu hg (hx.cell this)),hk,(.iv _ _ (kJ 0 y hr))⟩
    | _=>exact hk.elim
   | _=>exact hk.elim
end
section
variable{A:Nat->Prop}{ψ:Pl}{H:Hp}{w:World}{v:Value}
theorem Vp{x:Value}(h:ZL A ψ H w (.iv (.v x)) v):v=x:=by cases h with|iv _ _ h=>cases h;rfl
theorem CS{id off:Nat}(h:ZL A ψ H w (.ptr id off) v):∃b k o,look H id=some o/\ψ id=some (b,k)/\v= .pointer (some ⟨b,off,none⟩):=by
 cases h with|ptr _ _ b k o ho hb=>exact⟨b,k,o,ho,hb,rfl⟩
theorem b6O{id sz i off:Nat}(h:ZL A ψ H w (.ep id sz i off) v):
 ∃b k o m,look H id=some o/\o.dim=some (sz,m)/\i<m/\ψ id=some (b,k)/\v= .pointer (some ⟨b,k.1+(i*sz+off),none⟩):=by
 cases h with|ep _ _ _ _ b k o m ho he hi hb=>exact⟨b,k,o,m,ho,he,hi,hb,rfl⟩
theorem b7O{cs:List IV}(h:ZL A ψ H w (.iv (.pt cs)) v):∃(b off:Nat) (vs:Nat->Value),(∀i c,cs[i]? =some c->A b/\w.cell? ⟨b,off+i,none⟩=some (vs i))∧
 (∀i c,cs[i]? =some c->Yq A w c (vs i))/\v= .pointer (some ⟨b,off,none⟩):=by
 cases h with|iv _ _ h=>cases h with|pt _ b off vs h1 h2=>exact⟨b,off,vs,h1,h2,rfl⟩
theorem mW{cs:List AV}(h:ZL A ψ H w (.agg cs) v):∃vs:Array Value,vs.size=cs.length/\(∀i c,cs[i]? =some c->ZL A ψ H w c (vs.getD i undef))/\v= .agg vs:=by
 cases h with|agg _ vs h1 h2=>exact⟨vs,h1,h2,rfl⟩
theorem b9O{cs:List AV}(h:ZL A ψ H w (.Zp cs) v):∃vs:Array Value,vs.size=cs.length/\(∀i c,cs[i]? =some c->ZL A ψ H w c (vs.getD i undef))/\v= .tuple vs:=by
 cases h with|Zp _ vs h1 h2=>exact⟨vs,h1,h2,rfl⟩
theorem CJ{sz:Nat}(h:ZL A ψ H w (.nil sz) v):v= .slice none 0 0:=by cases h;rfl
theorem b1P{sz:Nat}{xs:List (List IV)}(h:ZL A ψ H w (.iv (.Z6 sz xs)) v):
 (xs=[]/\v= .slice none 0 0)\/∃(b off cap:Nat) (ad:Addr) (vs:Nat->Nat->Value),(xs≠[]->ad=⟨b,off,none⟩)/\(∀x∈xs,x.length=sz)/\xs.length<=cap∧
  (∀i j c,at2 xs i j=some c->A b/\w.cell? ⟨b,off+(i*sz+j),none⟩=some (vs i j))∧
  (∀i j c,at2 xs i j=some c->Yq A w c (vs i j))/\v= .slice (some ad) xs.length cap:=by
 cases h with
 |iv _ _ h=>
  cases h with
  |V5=>exact .inl ⟨rfl,rfl⟩
  |Z6 _ _ b off cap ad vs h1 h2 h3 h4 h5=>exact .inr ⟨b,off,cap,ad,vs,h1,h2,h3,h4,h5,rfl⟩
theorem HS{id sz lo len:Nat}(h:ZL A ψ H w (.sl id sz lo len) v):∃o m,look H id=some o/\o.dim=some (sz,m)/\lo+len<=m∧
 ((
  ψ id=none/\lo=0/\len=0/\v= .slice none 0 0)∨
  ∃b k cap ad,ψ id=some (b,k)/\(0<cap->ad=⟨b,k.1+lo*sz,none⟩)/\len<=cap/\(lo+cap)*sz<=k.2/\v= .slice (some ad) len cap):=by
 cases h with
 |UR _ _ o m ho he hb=>exact⟨o,m,ho,he,by omega, .inl ⟨hb,rfl,rfl,rfl⟩⟩
 |sl _ _ _ _ b k cap ad o m ho he hx hb ha Vc hk hm=>exact⟨o,m,ho,he,hx, .inr ⟨b,k,cap,ad,hb,ha,Vc,hk,rfl⟩⟩
theorem b3P{x:AV}{m:Nat}(h:ZL A ψ H w x v)(hx:(∃sz,x= .nil sz/\m=0)\/(∃sz xs,x= .iv (.Z6 sz xs)/\m=xs.length)\/∃id sz lo,x= .sl id sz lo m):
 ∃ad cap,v= .slice ad m cap:=by
 rcases hx with⟨sz,rfl,rfl⟩|⟨sz,xs,rfl,rfl⟩|⟨id,sz,lo,rfl⟩
 ·exact⟨none,0,CJ h⟩
 ·rcases b1P h with⟨rfl,rfl⟩|⟨b,off,cap,ad,vs,_,_,_,_,_,rfl⟩
  ·exact⟨none,0,rfl⟩
  ·exact⟨some ad,cap,rfl⟩
 ·obtain⟨_,_,_,_,_,⟨_,_,rfl,rfl⟩|⟨b,k,cap,ad,_,_,_,_,rfl⟩⟩:=HS h
  ·exact⟨none,0,rfl⟩
  ·exact⟨some ad,cap,rfl⟩
theorem b4P{id sz lo len:Nat}{ad:Option Addr}{m cap:Nat}(h:ZL A ψ H w (.sl id sz lo len) (.slice ad m cap)):cap<2^63:=by
 cases h with
 |UR=>decide
 |sl _ _ _ _ b k cap ad o m ho he hx hb ha Vc hk hm=>exact hm
end
section
variable{P:Program}{E:En}{n:Nat}{ψ:Pl}{s:St}{a:Act}{w:World}
variable{dst:Option Nat}{ty:TypeId}{pos:String}{af:Array Edge}{g:Option (Nat×Bool)}{r:V7}{d:Nat}{K:St->AV->Prop}
theorem b5P{c x y:Operand}(hc:comp P ⟨dst, .pick c x y,ty,pos,af,g⟩=some r)(h:Z7 E n ψ s a w)(hk:ZQ P d s K r):
 XR P E n ⟨dst, .pick c x y,ty,pos,af,g⟩ a w K:=by
 simp only[comp,a3y]at hc;subst hc;simp only[ZQ]at hk;have hx:=h.ev c;generalize s.ev c=ac at hx hk;split at hk
 ·rename_i t;have hv:=Vp hx;refine VZ h (v:=if t then a.eval x else a.eval y) (fun u=>by simp[execOp,hv,asBool]) hk ?_;cases t
  ·exact h.ev y
  ·exact h.ev x
 ·exact hk.elim
theorem b6P{x:Operand}(hc:comp P ⟨dst, .nilCheck x,ty,pos,af,g⟩=some r)(h:Z7 E n ψ s a w)(hk:ZQ P d s K r):
 XR P E n ⟨dst, .nilCheck x,ty,pos,af,g⟩ a w K:=by
 simp only[comp,a3y]at hc;subst hc;simp only[ZQ]at hk;have hx:=h.ev x
 have run:∀p,a.eval x= .pointer (some p)->∀w:World,(execOp a.eval ⟨dst, .nilCheck x,ty,pos,af,g⟩).run P w= .ok (.value (a.eval x)) w:=by
  intro p hp w;simp[execOp,hp]
 generalize s.ev x=ax at hx hk;split at hk
 ·obtain⟨b,k,o,_,_,e⟩:=CS hx;exact VZ h (run _ e) hk hx
 ·obtain⟨b,k,o,m,_,_,_,_,e⟩:=b6O hx;exact VZ h (run _ e) hk hx
 ·obtain⟨b,off,vs,_,_,e⟩:=b7O hx;exact VZ h (run _ e) hk hx
 ·exact hk.elim
theorem b7P{op:BinOp}{t:TypeId}{x y:Operand}{u v:Value}(w:World)(h1:u≠ .nilIface)(h2:∀cs,u≠ .agg cs):(eqGuard op t x y u v).run P w= .ok () w:=by
 unfold eqGuard
 cases u with
 |nilIface=>exact absurd rfl h1
 |agg cs=>exact absurd rfl (h2 cs)
 | _=>cases op<;>rfl
theorem b8P{op:BinOp}{u v z:Value}(h:YT op u v=some z)(t:TypeId):
 z.oneCell'=true/\u≠ .nilIface/\(∀cs,u≠ .agg cs)/\∀w:World,(Go.binOp op t u v).run P w= .ok z w:=by
 unfold YT at h;split at h
 ·rename_i j x k y;refine⟨?_,by simp,by simp,?_⟩
  ·cases op<;>simp only[Pr]at h<;>(repeat' split at h)<;>(first|(cases h;rfl)|cases h)
  ·intro w
   cases op<;>simp only[Pr]at h<;>(repeat' split at h)<;>(first|(cases h;done)|skip)<;>(try subst_vars)<;>cases h<;>
    first
     |(simp_all[Go.binOp,Op.intArith,Op.intDiv,Op.intBits,Op.intCmp,c8R];done)
     |(rename_i hy;simp only[Go.binOp,Op.shift,if_neg hy,Sem.run_pure,c9R])
 ·rename_i x y;refine⟨?_,by simp,by simp,?_⟩
  ·cases op<;>simp only[kR]at h<;>(first|(cases h;rfl)|cases h)
  ·intro w
   cases op<;>simp only[kR]at h<;>(first|(cases h;done)|skip)<;>cases h<;>simp[Go.binOp,Op.stringOp,kQ,Uu]
 ·cases h
theorem b9P{op:BinOp}{xt yt:TypeId}{x y:Operand}(h:Z7 E n ψ s a w)(hk:ZQ P d s K (.bin op x y)):
 XR P E n ⟨dst, .binOp op xt x y yt,ty,pos,af,g⟩ a w K:=by
 have hx:=h.ev x;have hy:=h.ev y;simp only[ZQ]at hk;generalize s.ev x=ax at hx hk;generalize s.ev y=ay at hy hk;split at hk
 ·rename_i u v;have e1:=Vp hx;have e2:=Vp hy;split at hk
  ·rename_i z hz;obtain⟨h1,h2,h3,h4⟩:=b8P (P:=P) hz xt;refine VZ h (v:=z) ?_ hk (UB h1)
   exact fun w=>by simp[execOp,e1,e2,b7P w h2 h3,h4 w]
  ·exact hk.elim
 ·exact hk.elim
theorem b0Q(k:Nat){t:TypeId}(hu:P.underlying t=some .bool)(u v:Bool)(w:World):(Op.equalIn (k+1) t (.bool u) (.bool v)).run P w= .ok (u==v) w:=by
 simp[Op.equalIn,run_underlying w hu]
theorem b1Q{t:TypeId}(hu:P.underlying t=some .bool)(u v:Bool)(w:World):(Op.equal t (.bool u) (.bool v)).run P w= .ok (u==v) w:=
 b0Q 9999 hu u v w
theorem b2Q{op:BinOp}{xt yt:TypeId}{x y:Operand}{neg:Bool}(hu:P.underlying xt=some .bool)(Na:op=if neg then .neq else .eql)
 (h:Z7 E n ψ s a w) (hk:ZQ P d s K (.beq neg x y)):XR P E n ⟨dst, .binOp op xt x y yt,ty,pos,af,g⟩ a w K:=by
 have hx:=h.ev x;have hy:=h.ev y;simp only[ZQ]at hk;generalize s.ev x=ax at hx hk;generalize s.ev y=ay at hy hk;split at hk
 ·rename_i u v;have e1:=Vp hx;have e2:=Vp hy;refine VZ h (v:= .bool (if neg then u != v else u==v)) ?_ hk (UB rfl);subst Na;intro w
  cases neg<;>simp[execOp,e1,e2,b7P,Go.binOp,b1Q hu,bne]
 ·exact hk.elim
theorem b3Q(k:Nat){t e:TypeId}(hu:P.underlying t=some (.pointer e))(u v:Option Addr)(w:World)(h:u=none\/v=none):
 (Op.equalIn (k+1) t (.pointer u) (.pointer v)).run P w= .ok (u.isNone&&v.isNone) w:=by
 cases u with
 |none=>simp[Op.equalIn,run_underlying w hu]
 |some u=>
  rcases h with h|h
  ·cases h
  ·subst h;simp[Op.equalIn,run_underlying w hu]
theorem b4Q{t e:TypeId}(hu:P.underlying t=some (.pointer e))(u v:Option Addr)(w:World)(h:u=none\/v=none):
 (Op.equal t (.pointer u) (.pointer v)).run P w= .ok (u.isNone&&v.isNone) w:=b3Q 9999 hu u v w h
theorem b5Q{op:BinOp}{xt yt e:TypeId}{x y:Operand}{neg:Bool}(hu:P.underlying xt=some (.pointer e))(Na:op=if neg then .neq else .eql)
 (h:Z7 E n ψ s a w) (hk:ZQ P d s K (.peq neg x y)):XR P E n ⟨dst, .binOp op xt x y yt,ty,pos,af,g⟩ a w K:=by
 have hx:=h.ev x;have hy:=h.ev y;simp only[ZQ]at hk
 have run:∀u v:Option Addr,a.eval x= .pointer u->a.eval y= .pointer v->(u=none\/v=none)->∀w:World,
  (execOp a.eval ⟨dst, .binOp op xt x y yt,ty,pos,af,g⟩).run P w= .ok (.value (.bool (if neg then !(u.isNone&&v.isNone)else u.isNone&&v.isNone))) w:=by
  intro u v e1 e2 hn w;subst Na
  cases neg<;>simp[execOp,e1,e2,b7P,Go.binOp,b4Q hu u v w hn]
 generalize s.ev x=ax at hx hk;generalize s.ev y=ay at hy hk;split at hk
 ·exact VZ h (run _ _ (Vp hx) (Vp hy) (.inl rfl)) (by cases neg<;>exact hk) (UB rfl)
 ·obtain⟨b,k,o,_,_,e2⟩:=CS hy;exact VZ h (run _ _ (Vp hx) e2 (.inl rfl)) (by cases neg<;>exact hk) (UB rfl)
 ·obtain⟨b,off,vs,_,_,e2⟩:=b7O hy;exact VZ h (run _ _ (Vp hx) e2 (.inl rfl)) (by cases neg<;>exact hk) (UB rfl)
 ·obtain⟨b,k,o,_,_,e1⟩:=CS hx;exact VZ h (run _ _ e1 (Vp hy) (.inr rfl)) (by cases neg<;>exact hk) (UB rfl)
 ·obtain⟨b,off,vs,_,_,e1⟩:=b7O hx;exact VZ h (run _ _ e1 (Vp hy) (.inr rfl)) (by cases neg<;>exact hk) (UB rfl)
 ·exact hk.elim
theorem b6Q(k:Nat){t e:TypeId}(hu:P.underlying t=some (.slice e))(ad:Option Addr)(m c:Nat)(w:World):
 (Op.equalIn (k+1) t (.slice ad m c) (.slice none 0 0)).run P w= .ok ad.isNone w:=by
 cases ad<;>simp[Op.equalIn,run_underlying w hu]
theorem b7Q{t e:TypeId}(hu:P.underlying t=some (.slice e))(ad:Option Addr)(m c:Nat)(w:World):
 (Op.equal t (.slice ad m c) (.slice none 0 0)).run P w= .ok ad.isNone w:=b6Q 9999 hu ad m c w
theorem b8Q{op:BinOp}{xt yt e:TypeId}{x:Operand}{neg:Bool}(hu:P.underlying xt=some (.slice e))(Na:op=if neg then .neq else .eql)
 (h:Z7 E n ψ s a w) (hk:ZQ P d s K (.PG neg x)):XR P E n ⟨dst, .binOp op xt x (.const (.slice none 0 0)) yt,ty,pos,af,g⟩ a w K:=by
 have hx:=h.ev x;simp only[ZQ]at hk
 have run:∀ad m c,a.eval x= .slice ad m c->∀w:World,
  (execOp a.eval ⟨dst, .binOp op xt x (.const (.slice none 0 0)) yt,ty,pos,af,g⟩).run P w= .ok (.value (.bool (if neg then !ad.isNone else ad.isNone))) w:=by
  intro ad m c e1 w;subst Na;have e2:a.eval (.const (.slice none 0 0))= .slice none 0 0:=rfl
  cases neg<;>simp[execOp,e1,e2,b7P,Go.binOp,b7Q hu ad m c w]
 generalize s.ev x=ax at hx hk;split at hk
 ·exact VZ h (run _ _ _ (CJ hx)) (by cases neg<;>exact hk) (UB rfl)
 ·rename_i id sz lo m;obtain⟨xs,xm,q1,he,q2,⟨p1,rfl,rfl,e1⟩|⟨b,k,cap,ad,p1,p2,p3,p4,e1⟩⟩:=HS hx
  ·exact VZ h (run _ _ _ e1) (hk true (by omega)) (UB rfl)
  ·exact VZ h (run _ _ _ e1) (hk false (fun _=>rfl)) (UB rfl)
 ·rename_i sz xs
  rcases b1P hx with⟨rfl,e1⟩|⟨b,off,cap,ad,vs,q1,q2,q3,q4,q5,e1⟩
  ·exact VZ h (run _ _ _ e1) (hk true (fun h=>absurd rfl h)) (UB rfl)
  ·exact VZ h (run _ _ _ e1) (hk false (fun _=>rfl)) (UB rfl)
 ·exact hk.elim
theorem b9Q{op:UnOp}{xt:TypeId}{x:Operand}(h:Z7 E n ψ s a w)(hk:ZQ P d s K (.un op x)):
 XR P E n ⟨dst, .unOp op xt x,ty,pos,af,g⟩ a w K:=by
 have hx:=h.ev x;simp only[ZQ]at hk;generalize s.ev x=ax at hx hk;split at hk
 ·rename_i v;have e1:=Vp hx;split at hk
  ·rename_i z hz
   have:z.oneCell'=true/\∀w:World,(Op.unary op v).run P w= .ok z w:=by
    unfold unV at hz
    (repeat' split at hz)<;>cases hz<;>exact⟨rfl,fun _=>rfl⟩
   refine VZ h (v:=z) ?_ hk (UB this.1)
   exact fun w=>by simp[execOp,e1,this.2 w]
  ·exact hk.elim
 ·exact hk.elim
theorem b0R{sr ds:TypeId}{x:Operand}{k j:IntKind}(h1:P.underlying sr=some (.int j))(h2:P.underlying ds=some (.int k))(h:Z7 E n ψ s a w)
 (hk:ZQ P d s K (.cvt k x)):XR P E n ⟨dst, .convert sr ds x,ty,pos,af,g⟩ a w K:=by
 have hx:=h.ev x;simp only[ZQ]at hk;generalize s.ev x=ax at hx hk;split at hk
 ·rename_i q m;have e1:=Vp hx;refine VZ h (v:= .int k (k.wrap m)) ?_ hk (UB rfl)
  exact fun w=>by simp[execOp,e1,convert,run_underlying w h1,run_underlying w h2,Conv.intToInt]
 ·exact hk.elim
theorem b1R{x:Operand}{i:Nat}(h:Z7 E n ψ s a w)(hk:ZQ P d s K (.ext i x)):XR P E n ⟨dst, .extract x i,ty,pos,af,g⟩ a w K:=by
 have hx:=h.ev x;simp only[ZQ]at hk;generalize s.ev x=ax at hx hk;split at hk
 ·rename_i vs;obtain⟨us,h1,h2,e⟩:=b9O hx;split at hk
  ·rename_i y hy;have hi:=(a5y.1 hy).1;refine VZ h (v:=us.getD i undef) ?_ hk (h2 i y hy);have:us[i]? =some (us.getD i undef):=getD_some (by omega)
   exact fun w=>by simp only[execOp,e,Instr.extract,this,Sem.run_bind,Sem.run_pure,Result.andThen_ok]
  ·exact hk.elim
 ·exact hk.elim
theorem b2R{t:TypeId}{e:TypeId}(hu:P.underlying t=some (.slice e))(ad:Option Addr)(m cap:Nat)(w:World)(ts:Array TypeId)(h0:ts[0]? =some t)(ty:TypeId):
 (Builtin.len_ ts ty #[.slice ad m cap]).run P w= .ok (.int .i64 m) w:=by
 simp[Builtin.len_,h0,run_underlying w hu,goInt]
theorem b3R{t:TypeId}(hu:P.underlying t=some .string)(x:ByteArray)(w:World)(ts:Array TypeId)(h0:ts[0]? =some t)(ty:TypeId):
 (Builtin.len_ ts ty #[.string x]).run P w= .ok (.int .i64 x.size) w:=by
 simp[Builtin.len_,h0,run_underlying w hu,goInt]
end
section
variable{P:Program}{E:En}{n:Nat}{ψ:Pl}{s:St}{a:Act}{w:World}
variable{dst:Option Nat}{ty:TypeId}{pos:String}{af:Array Edge}{g:Option (Nat×Bool)}{r:V7}{d:Nat}{K:St->AV->Prop}
theorem c5r{x:Operand}{ts:Array TypeId}{v:Value}{w:World}(hv:(Builtin.len_ ts ty #[a.eval x]).run P w= .ok v w):
 (execOp a.eval ⟨dst, .call ⟨.builtin .len, #[x],ts⟩,ty,pos,af,g⟩).run P w= .ok (.value v) w:=by
 simp only[execOp,resolve,Sem.run_bind,Sem.run_pure,Result.andThen_ok,invoke,builtin];simp[hv]
theorem c6r{x:Operand}{t e:TypeId}{ts:Array TypeId}(h0:ts[0]? =some t)(hu:P.underlying t=some (.slice e))
 (h:Z7 E n ψ s a w) (hk:ZQ P d s K (.len x)):XR P E n ⟨dst, .call ⟨.builtin .len, #[x],ts⟩,ty,pos,af,g⟩ a w K:=by
 have hx:=h.ev x;simp only[ZQ]at hk
 have run:∀ad m cap,a.eval x= .slice ad m cap->∀w:World,(execOp a.eval ⟨dst, .call ⟨.builtin .len, #[x],ts⟩,ty,pos,af,g⟩).run P w= .ok (.value (.int .i64 m)) w:=by
  intro ad m cap e1 w;exact c5r (by rw[e1];exact b2R hu _ _ _ _ _ h0 _)
 generalize s.ev x=ax at hx hk;split at hk
 ·rename_i sz xs;obtain⟨ad,cap,e1⟩:=b3P hx (.inr (.inl ⟨sz,xs,rfl,rfl⟩));exact VZ h (run _ _ _ e1) hk (UB rfl)
 ·rename_i id sz lo m;obtain⟨ad,cap,e1⟩:=b3P hx (.inr (.inr ⟨id,sz,lo,rfl⟩));exact VZ h (run _ _ _ e1) hk (UB rfl)
 ·rename_i sz;obtain⟨ad,cap,e1⟩:=b3P hx (.inl ⟨sz,rfl,rfl⟩);exact VZ h (run _ _ _ e1) hk (UB rfl)
 ·exact hk.elim
theorem c7r{x:Operand}{t:TypeId}{ts:Array TypeId}(h0:ts[0]? =some t)(hu:P.underlying t=some .string)
 (h:Z7 E n ψ s a w) (hk:ZQ P d s K (.lens x)):XR P E n ⟨dst, .call ⟨.builtin .len, #[x],ts⟩,ty,pos,af,g⟩ a w K:=by
 have hx:=h.ev x;simp only[ZQ]at hk;generalize s.ev x=ax at hx hk;split at hk
 ·have e1:=Vp hx;exact VZ h (fun w=>c5r (by rw[e1];exact b3R hu _ _ _ h0 _)) hk (UB rfl)
 ·exact hk.elim
theorem c8r{sT:TypeId}{x:Operand}{i:Nat}{fs:Array Field}{f:Field}{q:Nat}(hu:P.underlying sT=some (.struct fs))(hf:fs[i]? =some f)
 (hq:XY P f.type=some q) (mB:q≠0) (h:Z7 E n ψ s a w) (hk:ZQ P d s K (.fa f.offset x)):XR P E n ⟨dst, .fieldAddr sT x i,ty,pos,af,g⟩ a w K:=by
 have hx:=h.ev x;simp only[ZQ]at hk
 have run:∀b o,a.eval x= .pointer (some ⟨b,o,none⟩)->∀w:World,(execOp a.eval ⟨dst, .fieldAddr sT x i,ty,pos,af,g⟩).run P w= .ok (.value (.pointer (some ⟨b,o+f.offset,none⟩))) w:=by
  intro b o e w;simp only[execOp,Instr.fieldAt,e,sure,Sem.run_bind,run_underlying w hu,Result.andThen_ok,hf,Sem.run_pure',fieldPlace,run_sizeOf w hq,if_neg mB,Sem.run_pure,Dz]
 generalize s.ev x=ax at hx hk;split at hk
 ·obtain⟨b,k,o,h1,h2,e⟩:=CS hx;exact VZ h (run _ _ e) hk (.ptr _ _ b k o h1 h2)
 ·rename_i id Zz i' off;obtain⟨b,k,o2,m2,h1,he,h2,h3,e⟩:=b6O hx;refine VZ h (run _ _ e) hk ?_;rw[show k.1+(i'*Zz+off)+f.offset=k.1+(i'*Zz+(off+f.offset))from by omega];exact .ep _ _ _ _ b k o2 m2 h1 he h2 h3
 ·obtain⟨b,o,vs,h1,h2,e⟩:=b7O hx;refine VZ h (run _ _ e) hk (.iv _ _ (.pt _ b _ (fun j=>vs (f.offset+j)) (fun j c hj=>?_) (fun j c hj=>?_)))
  ·rw[a8M]at hj;obtain⟨g1,g2⟩:=h1 _ _ hj;exact⟨g1,by rw[b5O];exact g2⟩
  ·rw[a8M]at hj;exact h2 _ _ hj
 ·exact hk.elim
theorem c9r{t:TypeId}{dd:TypeDesc}(hu:P.underlying t=some dd)(hg:XT P t=false){vs:Array Value}{off:Nat}(ho:off<vs.size)(w:World):
 (part t vs off).run P w= .ok (vs.getD off undef) w:=by
 simp only[part,Sem.run_bind,e1o w hu,Result.andThen_ok,hg,a1N,if_false,getD_some ho (d:=undef),Sem.run_pure]
theorem c0s{t:TypeId}{dd:TypeDesc}(hu:P.underlying t=some dd)(hg:XT P t=true){q:Nat}(hq:XY P t=some q)(vs:Array Value)(off:Nat)(w:World):
 (part t vs off).run P w= .ok (.agg (vs.extract off (off+q))) w:=by
 simp only[part,Sem.run_bind,e1o w hu,Result.andThen_ok,hg,if_true,run_sizeOf w hq,Sem.run_pure]
theorem c1s(vs:Array Value)(off q:Nat):vs.extract off (off+q)=((vs.toList.drop off).take q).toArray:=by
 apply b1p;simp[Array.toList_extract,List.take_drop,List.extract_eq_take_drop,Nat.add_comm]
theorem c2s{sT:TypeId}{x:Operand}{i:Nat}{fs:Array Field}{f:Field}{q:Nat}{dd:TypeDesc}(hu:P.underlying sT=some (.struct fs))(hf:fs[i]? =some f)
 (hq:XY P f.type=some q) (hd:P.underlying f.type=some dd) (h:Z7 E n ψ s a w) (hk:ZQ P d s K (.Wq f.offset (if XT P f.type then some q else none) x)):
 XR P E n ⟨dst, .field sT x i,ty,pos,af,g⟩ a w K:=by
 have hx:=h.ev x
 have run:∀vs v,a.eval x= .agg vs->(∀w:World,(part f.type vs f.offset).run P w= .ok v w)->∀w:World,(execOp a.eval ⟨dst, .field sT x i,ty,pos,af,g⟩).run P w= .ok (.value v) w:=by
  intro vs v e hv w;simp only[execOp,Instr.field,e,Sem.run_bind,run_underlying w hu,Result.andThen_ok,hf,asAgg,Sem.run_pure,hv w]
 by_cases hg:XT P f.type=true
 ·rw[if_pos hg]at hk;simp only[ZQ]at hk;generalize s.ev x=ax at hx hk;split at hk
  ·rename_i cs;obtain⟨hl,hk⟩:=hk;obtain⟨vs,h1,h2,e⟩:=mW hx;refine VZ h (run _ _ e (c0s hd hg hq vs f.offset)) hk ?_;rw[c1s];exact e7o h2 hl (by omega)
  ·exact hk.elim
 ·have hg:XT P f.type=false:=by simpa using hg
  rw[hg]at hk;simp only[a1N,if_false,ZQ]at hk;generalize s.ev x=ax at hx hk;split at hk
  ·rename_i cs;obtain⟨vs,h1,h2,e⟩:=mW hx;split at hk
   ·rename_i y hy;have:=(a5y.1 hy).1;exact VZ h (run _ _ e (c9r hd hg (by omega))) hk (h2 _ y hy)
   ·exact hk.elim
  ·exact hk.elim
theorem c3s{t e:TypeId}{x i:Operand}{sz:Nat}(hu:P.underlying t=some (.slice e))(Ya:XY P e=some sz)(h:Z7 E n ψ s a w)
 (hk:ZQ P d s K (.ia sz x i)):XR P E n ⟨dst, .indexAddr t x i,ty,pos,af,g⟩ a w K:=by
 have hx:=h.ev x;have hi:=h.ev i;simp only[ZQ]at hk
 have run:∀ad m cap k j,a.eval x= .slice (some ad) m cap->a.eval i= .int k j->0<=j->j<m->∀w:World,
  (execOp a.eval ⟨dst, .indexAddr t x i,ty,pos,af,g⟩).run P w= .ok (.value (.pointer (some (ad.add (j.toNat*sz))))) w:=by
  intro ad m cap k j e1 e2 h1 h2 w;simp[execOp,Instr.indexAt,e1,e2,asIntOf,run_underlying w hu,run_sizeOf w Ya,h1,h2]
 generalize s.ev x=ax at hx hk;generalize s.ev i=ai at hi hk;split at hk
 ·rename_i Zz xs k m;obtain⟨rfl,hm,hk⟩:=hk;have e2:=Vp hi;split at hk
  ·rename_i r hr;have Z2:=(a5y.1 hr).1
   rcases b1P hx with⟨rfl,_⟩|⟨b,off,cap,ad,vs,g1,g2,g3,g4,g5,e1⟩
   ·simp at Z2
   ·have ZV:xs≠[]:=by rintro rfl;simp at Z2
    have g1:=g1 ZV;subst g1;refine VZ h (run _ _ _ _ _ e1 e2 hm (by omega)) hk ?_;rw[Dz];refine .iv _ _ (.pt r b _ (fun j=>vs m.toNat j) (fun j c hj=>?_) (fun j c hj=>g5 _ _ _ (mX hr hj)));obtain⟨q1,q2⟩:=g4 _ _ _ (mX hr hj);exact⟨q1,by rw[b5O];exact q2⟩
  ·exact hk.elim
 ·rename_i id Zz o kk k m;obtain⟨rfl,hm,Iw,hk⟩:=hk;have e2:=Vp hi;obtain⟨xs,xm,q1,he,q2,⟨_,_,rfl,_⟩|⟨b,c,cap,ad,p1,p2,p3,p4,e1⟩⟩:=HS hx
  ·omega
  ·refine VZ h (run _ _ _ _ _ e1 e2 hm (by omega)) hk ?_;rw[p2 (by omega),Dz,show c.1+o*Zz+m.toNat*Zz=c.1+((o+m.toNat)*Zz+0)from by rw[a4N];omega];exact .ep id Zz (o+m.toNat) 0 b c xs xm q1 he (by omega) p1
 ·exact hk.elim
theorem c4s{t:TypeId}{x i:Operand}(hu:P.underlying t=some .string)(h:Z7 E n ψ s a w)
 (hk:ZQ P d s K (.is x i)):XR P E n ⟨dst, .index t x i,ty,pos,af,g⟩ a w K:=by
 have hx:=h.ev x;have hi:=h.ev i;simp only[ZQ]at hk;generalize s.ev x=ax at hx hk;generalize s.ev i=ai at hi hk;split at hk
 ·rename_i t' k m;obtain⟨hm,hk⟩:=hk;have e1:=Vp hx;have e2:=Vp hi;split at hk
  ·rename_i b hb;refine VZ h (v:= .int .u8 b.toNat) ?_ hk (UB rfl)
   exact fun w=>by simp[execOp,Instr.index,e1,e2,asIntOf,run_underlying w hu,hm,hb]
  ·exact hk.elim
 ·exact hk.elim
theorem c5s{t e:TypeId}{x i:Operand}{q:Nat}{dd:TypeDesc}(hu:P.underlying t=some (.array q e))(Ya:XY P e=some 1)(hg:XT P e=false)(hd:P.underlying e=some dd)(h:Z7 E n ψ s a w)
 (hk:ZQ P d s K (.ix q x i)):XR P E n ⟨dst, .index t x i,ty,pos,af,g⟩ a w K:=by
 have hx:=h.ev x;have hi:=h.ev i;simp only[ZQ]at hk;generalize s.ev x=ax at hx hk;generalize s.ev i=ai at hi hk;split at hk
 ·rename_i cs k m;obtain⟨hm,Z2,hk⟩:=hk;obtain⟨vs,h1,h2,e1⟩:=mW hx;have e2:=Vp hi;split at hk
  ·rename_i y hy;have:=(a5y.1 hy).1;refine VZ h ?_ hk (h2 _ y hy);intro w;have hp:=c9r (P:=P) hd hg (vs:=vs) (off:=m.toNat) (by omega) w;simp[execOp,Instr.index,e1,e2,asIntOf,run_underlying w hu,run_sizeOf w Ya,hm,Z2,hp]
  ·exact hk.elim
 ·exact hk.elim
theorem c6s{x:Operand}{k:IntKind}{m:Int}(hx:a.eval x= .int k m){y:Nat}(h0:0<=m)(h1:m<=y)(code:BoundsCode)(w:World):
 (Instr.sliceBound (a.eval x) y code).run P w= .ok m.toNat w:=by
 simp[Instr.sliceBound,hx,asIntOf,h0,h1]
theorem c7s{x:Operand}{g8I:Nat}{m:Int}(h:Z7 E n ψ s a w)(hb:s.bound g8I (some x)=some m):∃k,a.eval x= .int k m:=by
 have hx:=h.ev x;simp only[St.bound]at hb;generalize s.ev x=ax at hx hb;split at hb
 ·rename_i k q;cases hb;exact⟨k,Vp hx⟩
 ·cases hb
theorem c8s{lo hi:Option Operand}{len cap:Nat}{l m:Int}(h:Z7 E n ψ s a w)(hl:s.bound 0 lo=some l)(hh:s.bound len hi=some m)(h0:0<=l)(h1:l<=m)
 (h2:m<=len) (h3:len<=cap) (w':World):(Instr.sliceBounds true len cap (lo.map a.eval) (hi.map a.eval) none).run P w'= .ok (l.toNat,m.toNat,cap) w':=by
 have hlo:lo=none->l=0:=by rintro rfl;simpa[St.bound,eq_comm]using hl
 have hhi:hi=none->m=len:=by rintro rfl;simpa[St.bound,eq_comm]using hh
 have rl:∀x,lo=some x->∀y:Nat,l<=y->∀c,(Instr.sliceBound (a.eval x) y c).run P w'= .ok l.toNat w':=by
  rintro x rfl y hy c;obtain⟨k,e⟩:=c7s h hl;exact c6s e h0 hy c w'
 have rh:∀x,hi=some x->∀y:Nat,m<=y->∀c,(Instr.sliceBound (a.eval x) y c).run P w'= .ok m.toNat w':=by
  rintro x rfl y hy c;obtain⟨k,e⟩:=c7s h hh;exact c6s e (by omega) hy c w'
 unfold Instr.sliceBounds
 cases hi with
 |none=>
  have hm:=hhi rfl
  have SV:m.toNat=len:=by omega
  cases lo with
  |none=>have M6:=hlo rfl;subst M6;simp[SV]
  |some x=>simp[rl x rfl len (by omega),SV]
 |some y=>
  cases lo with
  |none=>have M6:=hlo rfl;subst M6;simp[rh y rfl cap (by omega)]
  |some x=>simp[rh y rfl cap (by omega),rl x rfl m.toNat (by omega)]
theorem c9s{t e:TypeId}{x:Operand}{lo hi:Option Operand}{sz:Nat}(hu:P.underlying t=some (.slice e))(Ya:XY P e=some sz)(h:Z7 E n ψ s a w)
 (hk:ZQ P d s K (.cut sz x lo hi)):XR P E n ⟨dst, .slice t x lo hi none,ty,pos,af,g⟩ a w K:=by
 have hx:=h.ev x;simp only[ZQ]at hk
 have run:∀ad len cap l m,a.eval x= .slice ad len cap->s.bound 0 lo=some l->s.bound len hi=some m->0<=l->l<=m->m<=len->len<=cap->∀w:World,
  (execOp a.eval ⟨dst, .slice t x lo hi none,ty,pos,af,g⟩).run P w=
   .ok (.value (.slice (if cap=l.toNat then ad else ad.map (·.add (l.toNat*sz))) (m.toNat-l.toNat) (cap-l.toNat))) w:=by
  intro ad len cap l m e1 hl hm g0 g1 g2 g3 w;simp only[execOp,Option.map_none,Instr.sliceAt,Instr.slice,e1,Sem.run_bind,run_underlying w hu,Result.andThen_ok,c8s h hl hm g0 g1 g2 g3 w,run_sizeOf w Ya,Sem.run_pure]
 generalize s.ev x=ax at hx hk;split at hk
 ·rename_i Zz xs;split at hk
  ·rename_i l m hl hm;obtain⟨rfl,g0,g1,g2,hk⟩:=hk
   rcases b1P hx with⟨rfl,e1⟩|⟨b,off,cap,ad,vs,q1,q2,q3,q4,q5,e1⟩
   ·simp only[c2i]at hm g2;refine VZ h (run _ _ _ _ _ e1 hl hm g0 g1 (by simpa using g2) (a8F _)) hk ?_
    have M6:l=0:=by simp at g2;omega
    have EH:m=0:=by simp at g2;omega
    subst M6;subst EH;simp;exact .iv _ _ (.V5 _)
   ·refine VZ h (run _ _ _ _ _ e1 hl hm g0 g1 g2 q3) hk ?_
    have hlen:((xs.drop l.toNat).take (m-l).toNat).length=m.toNat-l.toNat:=by simp;omega
    have key:=Yq.Z6 (A:=Im E ψ s.hp) (w:=w) Zz ((xs.drop l.toNat).take (m-l).toNat) b (off+l.toNat*Zz) (cap-l.toNat)
     (if cap=l.toNat then ad else ad.add (l.toNat*Zz)) (fun i j=>vs (l.toNat+i) j)
     (fun ZV=>by
      have h1:0<m.toNat-l.toNat:=by
       rcases b0q (m.toNat-l.toNat)with h0|h0
       ·exact absurd (a2S (by omega)) ZV
       ·exact h0
      have g9I:xs≠[]:=by rintro rfl;simp at g2;omega
      rw[if_neg (by omega),q1 g9I,Dz])
     (fun y hy=>q2 y (b1J (a6U hy))) (by omega)
     (fun i j c Xu=>by
      obtain⟨p1,p2⟩:=q4 _ _ _ (d9z _ _ _ _ _ _ Xu);refine⟨p1,?_⟩;rw[<-p2,a4N]
      congr 2
      omega)
     (fun i j c Xu=>q5 _ _ _ (d9z _ _ _ _ _ _ Xu))
    rw[hlen]at key;refine .iv _ _ ?_
    have e3:(if cap=l.toNat then some ad else d3Q (fun x=>x.add (l.toNat*Zz)) (some ad))=some (if cap=l.toNat then ad else ad.add (l.toNat*Zz)):=by
     split<;>rfl
    rw[e3];exact key
  ·exact hk.elim
 ·rename_i id Zz o len;split at hk
  ·rename_i l m hl hm;obtain⟨rfl,g0,g1,g2,hk⟩:=hk;obtain⟨xs,xm,q1,he,q2,⟨p1,rfl,rfl,e1⟩|⟨b,c,cap,ad,p1,p2,p3,p4,e1⟩⟩:=HS hx
   ·refine VZ h (run _ _ _ _ _ e1 hl hm g0 g1 (by omega) (a8F _)) hk ?_
    have M6:l=0:=by omega
    have EH:m=0:=by omega
    subst M6;subst EH;simp;exact .UR id Zz xs xm q1 he p1
   ·refine VZ h (run _ _ _ _ _ e1 hl hm g0 g1 (by omega) p3) hk ?_
    have e3:(if cap=l.toNat then some ad else d3Q (fun x=>x.add (l.toNat*Zz)) (some ad))=some (if cap=l.toNat then ad else ad.add (l.toNat*Zz)):=by
     split<;>rfl
    rw[e3,show m.toNat-l.toNat=(m-l).toNat from by omega];refine .sl id Zz (o+l.toNat) (m-l).toNat b c (cap-l.toNat) _ xs xm q1 he (by omega) p1 (fun hc=>?_) (by omega) ?_ (by rw[e1]at hx;have:=b4P hx;omega)
    ·rw[if_neg (by omega),p2 (by omega),Dz,a4N,b5O]
    ·refine a0N ?_ p4;exact a0G Zz (by omega)
  ·exact hk.elim
 ·rename_i Zz;split at hk
  ·rename_i l m hl hm;obtain⟨rfl,rfl,hk⟩:=hk;have e1:=CJ hx;refine VZ h (run _ _ _ _ _ e1 hl hm (by omega) (by omega) (by omega) (a8F _)) hk ?_;simp;exact .nil _
  ·exact hk.elim
 ·exact hk.elim
end
theorem G4:∀(vs:List Value) (q:List Nat),(Ov vs q).length=vs.length:=by
 intro vs
 induction vs with
 |nil=>intro q;cases q<;>rfl
 |cons v vs ih=>intro q;cases q<;>simp[Ov,ih]
theorem mM:∀(vs:List Value) (q:List Nat) (i:Nat) (x:AV),(Ov vs q)[i]? =some x->∃sz,x=G1 sz (vs.getD i undef):=by
 intro vs
 induction vs with
 |nil=>intro q i x h;cases q<;>simp[Ov]at h
 |cons v vs ih=>
  intro q i x h
  cases q with
  |nil=>
   cases i with
   |zero=>simp only[Ov,a0F,a3y]at h;exact⟨0,h.symm⟩
   |succ i=>simp only[Ov,a5J]at h;obtain⟨sz,e⟩:=ih _ _ _ h;exact⟨sz,by simpa using e⟩
  |cons k q=>
   cases i with
   |zero=>simp only[Ov,a0F,a3y]at h;exact⟨k,h.symm⟩
   |succ i=>simp only[Ov,a5J]at h;obtain⟨sz,e⟩:=ih _ _ _ h;exact⟨sz,by simpa using e⟩
theorem Sn(c:Array Value)(i:Nat):c.toList.getD i undef=c.getD i undef:=by
 simp[a7V,a3E]
theorem nc{A:Nat->Prop}{ψ:Pl}{H:Hp}{w:World}{x:AV}{v:Value}(h:ZL A ψ H w x v){cs:List AV}(hc:x.cellsOf=some cs):
 v.cells.size=cs.length/\∀i c,cs[i]? =some c->ZL A ψ H w c (v.cells.getD i undef):=by
 have one:v.oneCell'=true->cs=[x]->v.cells.size=cs.length/\∀i c,cs[i]? =some c->ZL A ψ H w c (v.cells.getD i undef):=by
  rintro h1 rfl;rw[e9m h1];refine⟨rfl,fun i c hi=>?_⟩
  cases i with
  |zero=>simp at hi;subst hi;exact h
  |succ i=>simp at hi
 cases h with
 |agg cs' vs hl hh=>simp only[AV.cellsOf,a3y]at hc;subst hc;exact⟨hl,hh⟩
 |Zp=>simp[AV.cellsOf]at hc
 |un=>simp[AV.cellsOf]at hc
 |junk=>simp[AV.cellsOf]at hc
 |iv x v h'=>exact one h'.one (by simpa[AV.cellsOf,eq_comm]using hc)
 |nil=>exact one rfl (by simpa[AV.cellsOf,eq_comm]using hc)
 |UR=>exact one rfl (by simpa[AV.cellsOf,eq_comm]using hc)
 |sl=>exact one rfl (by simpa[AV.cellsOf,eq_comm]using hc)
 |ptr=>exact one rfl (by simpa[AV.cellsOf,eq_comm]using hc)
 |ep=>exact one rfl (by simpa[AV.cellsOf,eq_comm]using hc)
 |mpr=>exact one rfl (by simpa[AV.cellsOf,eq_comm]using hc)
 |fn=>exact one rfl (by simpa[AV.cellsOf,eq_comm]using hc)
theorem LI(s:St)(id:Nat):look (s.drop id).hp id=none:=by
 unfold St.drop;split
 ·assumption
 ·simp only[G0,if_true]
section
variable{P:Program}{E:En}{n:Nat}{ψ:Pl}{s:St}{a:Act}{w:World}
variable{dst:Option Nat}{ty:TypeId}{pos:String}{af:Array Edge}{g:Option (Nat×Bool)}{r:V7}{d:Nat}{K:St->AV->Prop}
theorem mL(w:World)(o:Obj):(w.alloc o).heap[w.heap.size]? =some o:=by
 show(w.heap.push o)[w.heap.size]? =_
 simp
theorem a6E{o:Op}{x:Operand}(ho:o= .move x\/o= .assign x)(h:Z7 E n ψ s a w)(hk:ZQ P d s K (.QH x)):
 XR P E n ⟨dst,o,ty,pos,af,g⟩ a w K:=by
 simp only[ZQ]at hk;refine VZ h (v:=a.eval x) ?_ hk (h.ev x)
 exact fun w=>by rcases ho with rfl|rfl<;>rfl
theorem a7E{o:Op}{sz:Nat}(ho:o= .move (.const (.slice none 0 0))\/o= .assign (.const (.slice none 0 0)))(hd:d<1000)(h:Z7 E n ψ s a w)
 (hk:ZQ P d s K (.GY sz)):XX P E n ⟨dst,o,ty,pos,af,g⟩ a w K:=by
 simp only[ZQ]at hk;have h1:=h.drop (id:=d) hd
 have h2:=h1.new (o:= .list sz []) (p:=none) hd (LI s d) (Ext.refl w) (fun _ _ e=>by cases e)
  ⟨(fun x hx=>by cases hx), .inl ⟨by simp[XE],rfl⟩⟩
 refine Sh (v:= .slice none 0 0) ?_ hk h2 ?_
 ·rcases ho with rfl|rfl<;>rfl
 ·exact .UR d sz (.list sz []) 0 (by simp[WL]) rfl (by simp[XE])
theorem a8E{o:Oper}{cs:List AV}{c:Array Value}{t:TypeId}(hd:d<1000)(h:Z7 E n ψ s a w)(hlen:c.size=cs.length)
 (hc:∀i x,cs[i]? =some x->ZL (Im E ψ (s.drop d).hp) ψ (s.drop d).hp w x (c.getD i undef))
 (hr:(execOp a.eval o).run P w= .ok (.value (.pointer (some ⟨w.heap.size,0,none⟩))) (w.alloc (.cells c t)))
 (hk:K ((s.drop d).add d (.box cs)) (.ptr d 0)):XX P E n o a w K:=by
 have h1:=h.drop (id:=d) hd;have YQ:=LI s d
 have Wf:∀q,U8 ψ (XE ψ d q) (s.drop d).hp ((s.drop d).add d (.box cs)).hp:=by
  intro q k ob hk
  have ZV:k≠d:=by rintro rfl;rw[YQ]at hk;cases hk
  exact⟨⟨ob,by rw[WL,if_neg (Ne.symm ZV)];exact hk,ob.le_refl⟩,by simp[XE,ZV]⟩
 have h2:=h1.new (o:= .box cs) (p:=some (w.heap.size,(0,c.size))) hd YQ (Ext.alloc w (.cells c t)) (fun b k e=>by cases e;exact a8F _)
  ⟨w.heap.size,c,t,by simp[XE],mL _ _,hlen,fun i x hx=>
   (hc i x hx).mono (fun b hb hi=>⟨hb,hi⟩) (fun b hb _=>(Ext.alloc w (.cells c t)).block b hb) (Wf _)⟩
 exact Sh hr hk h2 (.ptr d 0 w.heap.size (0,c.size) (.box cs) (by simp[WL]) (by simp[XE]))
theorem DA{t:TypeId}{z:List AV}(hz:QI P t=some z):∃i zv,P.info? t=some i/\i.zero=some zv/\z=Ov zv.cells.toList (oS P 20 t):=by
 unfold QI at hz
 cases hi:P.info? t with
 |none=>rw[hi]at hz;cases hz
 |some i=>
  rw[hi]at hz
  cases hv:i.zero with
  |none=>simp[hv]at hz
  |some zv=>simp[hv]at hz;exact⟨i,zv,rfl,hv,hz.symm⟩
theorem G3{t:TypeId}{i:TypeInfo}{zv:Value}(h1:P.info? t=some i)(h2:i.zero=some zv)(w:World):(zeroValue t).run P w= .ok zv w:=by
 simp[zeroValue,typeInfo,h1,h2]
theorem a1F{t:TypeId}{z:List AV}(hz:QI P t=some z)(hd:d<1000)(h:Z7 E n ψ s a w)(hk:ZQ P d s K (.alloc z)):
 XX P E n ⟨dst, .alloc t,ty,pos,af,g⟩ a w K:=by
 simp only[ZQ]at hk;obtain⟨i,zv,h1,h2,rfl⟩:=DA hz;refine a8E (c:=zv.cells) (t:=t) hd h (by rw[G4];simp) (fun j x hx=>?_) ?_ hk
 ·obtain⟨sz,e⟩:=mM _ _ _ _ hx;rw[e,Sn];exact CK _ _
 ·simp[execOp,Instr.alloc,G3 h1 h2,newVar,newRow]
theorem a2F{t:TypeId}{x:Operand}(hd:d<1000)(h:Z7 E n ψ s a w)(hk:ZQ P d s K (.box x)):
 XX P E n ⟨dst, .box t x,ty,pos,af,g⟩ a w K:=by
 simp only[ZQ]at hk;have hx:=(h.drop (id:=d) hd).ev x;split at hk
 ·rename_i cs hcs;obtain⟨g1,g2⟩:=nc hx hcs;refine a8E (c:=(a.eval x).cells) (t:=t) hd h g1 g2 ?_ hk;simp[execOp,Instr.box,newVar,newRow]
 ·exact hk.elim
theorem a3F{mx:Bool}:∀(l:List AV) (vs:List Value) (k:IntKind) (m:Int) {k':IntKind} {m':Int} {A:Nat->Prop} {H:Hp},
 vs.length=l.length->(∀i x,l[i]? =some x->ZL A ψ H w x (vs.getD i undef))->CH mx k m l=some (k',m')->
 (vs.foldlM (if mx then Builtin.max2 else Builtin.min2) (.int k m):Sem Value).run P w= .ok (.int k' m') w:=by
 intro l
 induction l with
 |nil=>
  intro vs k m k' m' A H hl _ he
  cases vs with
  |nil=>simp only[CH,a3y,a2L]at he;obtain⟨rfl,rfl⟩:=he;rfl
  |cons=>simp at hl
 |cons x l ih=>
  intro vs k m k' m' A H hl hv he
  cases vs with
  |nil=>simp at hl
  |cons v vs=>
   unfold CH at he;split at he
   ·cases h9c:(v::vs)[0]? <;>simp_all
   ·rename_i k2 m2 r heq;cases heq;have h0:=hv 0 _ rfl
    have hv0:v= .int k2 m2:=by simpa using Vp h0
    subst hv0;rw[c7H]
    have e:((if mx then Builtin.max2 else Builtin.min2) (.int k m) (.int k2 m2):Sem Value).run P w= .ok (.int k (if mx then max m m2 else min m m2)) w:=by
     cases mx
     ·simp only[a1N,if_false,Builtin.min2,Sem.run_pure]
      congr 2;rw[Int.min_def];split<;>split<;>omega
     ·simp only[if_true,Builtin.max2,Sem.run_pure]
      congr 2;rw[Int.max_def];split<;>split<;>omega
    rw[Sem.run_bind,e];simp only[Result.andThen_ok];exact ih vs k _ (by simpa using hl) (fun i y hy=>by simpa using hv (i+1) y (by simpa using hy)) he
   ·cases he
theorem a4F{w:World}{xs:Array Operand}{ts:Array TypeId}{v:Value}{mx:Bool}
 (hv:(if mx then Builtin.max_ ts ty (xs.map a.eval)else Builtin.min_ ts ty (xs.map a.eval)).run P w= .ok v w):
 (execOp a.eval ⟨dst, .call ⟨.builtin (if mx then .max else .min),xs,ts⟩,ty,pos,af,g⟩).run P w= .ok (.value v) w:=by
 cases mx<;>simp only[execOp,resolve,Sem.run_bind,Sem.run_pure,Result.andThen_ok,invoke,builtin,a1N,if_false,if_true]at hv⊢ <;>rw[hv]<;>rfl
theorem a5F{xs:Array Operand}{ts:Array TypeId}{mx:Bool}(h:Z7 E n ψ s a w)(hk:ZQ P d s K (.mm mx xs.toList)):
 XX P E n ⟨dst, .call ⟨.builtin (if mx then .max else .min),xs,ts⟩,ty,pos,af,g⟩ a w K:=by
 simp only[ZQ]at hk;split at hk
 ·rename_i k m he;refine e8n h (v:= .int k m) (a4F ?_) hk (UB rfl)
  cases IU:xs.toList with
  |nil=>rw[IU]at he;simp[c5S]at he
  |cons x r=>
   rw[IU,a0I]at he;unfold c5S at he;split at he
   ·rename_i k0 n0 r0 heq;simp only[a4U]at heq;obtain⟨h0,hr⟩:=heq;have hx:=h.ev x;rw[h0]at hx;have e0:=Vp hx
    have e1:(xs.map a.eval).toList= .int k0 n0::r.map a.eval:=by rw[c2G,IU,a0I,e0]
    subst hr
    have key:=a3F (P:=P) (r.map s.ev) (r.map a.eval) k0 n0 (by simp) (fun i y hy=>by
     rw[a1C]at hy
     cases hri:r[i]? with
     |none=>rw[hri]at hy;cases hy
     |some z=>rw[hri]at hy;cases hy;simp only[a7V,a1C,hri,a8H,a1J];exact h.ev z) he
    cases mx
    ·simp only[a1N,if_false]at key⊢;unfold Builtin.min_;rw[e1];exact key
    ·simp only[if_true]at key⊢;unfold Builtin.max_;rw[e1];exact key
   ·cases he
 ·exact hk.elim
theorem a6F{xs:List Operand}{l:List Z3}(h:Z7 E n ψ s a w)(hm:(xs.map s.ev).mapM AV.cap=some l):
 l.length=xs.length/\∀i c,l[i]? =some c->W9 (Im E ψ s.hp) ψ s.hp w c ((xs.map a.eval).getD i undef):=by
 induction xs generalizing l with
 |nil=>simp at hm;subst hm;exact⟨rfl,by simp⟩
 |cons x xs ih=>
  simp only[a0I,a0Q,a5V]at hm
  cases hc:(s.ev x).cap with
  |none=>rw[hc]at hm;cases hm
  |some c0=>
   rw[hc]at hm
   cases hr:(xs.map s.ev).mapM AV.cap with
   |none=>rw[hr]at hm;cases hm
   |some l0=>
    rw[hr]at hm;simp at hm;subst hm;obtain⟨g1,g2⟩:=ih hr;refine⟨by simp[g1],fun i c hi=>?_⟩
    cases i with
    |zero=>
     simp at hi;subst hi;simp only[a0I,c4B];have hx:=h.ev x;generalize s.ev x=ax at hx hc;generalize a.eval x=vx at hx
     cases hx with
     |ptr id off b k o ho hb=>simp[AV.cap]at hc;subst hc;exact .ptr id off b k o ho hb
     |iv y v hy=>simp[AV.cap]at hc;subst hc;exact .val _ _ hy
     |nil sz=>simp[AV.cap]at hc;subst hc;exact .val _ _ (.V5 _)
     | _=>simp[AV.cap]at hc
    |succ i=>simp only[a5J]at hi;simpa using g2 i c hi
theorem a7F{f:FuncId}{first caps:Array Operand}(h:Z7 E n ψ s a w)(hk:ZQ P d s K (.VO f first.toList caps.toList)):
 XR P E n ⟨dst, .makeFunc (.func f) first caps,ty,pos,af,g⟩ a w K:=by
 simp only[ZQ]at hk;split at hk
 ·rename_i l1 l2 e1 e2;obtain⟨a1,a2⟩:=a6F h e1;obtain⟨b1,b2⟩:=a6F h e2;refine VZ h (v:= .func (.func f) (first.map a.eval) (caps.map a.eval)) (fun w=>by simp[execOp,Instr.makeFunc]) hk ?_;refine .fn f l1 l2 _ _ (by simp[a1]) (by simp[b1]) (fun i c hi=>?_) (fun i c hi=>?_)
  ·rw[<-Sn,c2G];exact a2 i c hi
  ·rw[<-Sn,c2G];exact b2 i c hi
 ·exact hk.elim
end
def UK(c:Array Value)(off:Nat)(vs:List Value):Array Value:=(vs.zipIdx.foldl (fun cs (x,j)=>cs.setIfInBounds (off+j) x) c)
theorem a7C(off:Nat):∀(vs:List Value) (k:Nat) (c:Array Value),
 ((vs.zipIdx k).foldl (fun cs (x,j)=>cs.setIfInBounds (off+j) x) c).size=c.size∧
 ∀q,q<c.size->((vs.zipIdx k).foldl (fun cs (x,j)=>cs.setIfInBounds (off+j) x) c).getD q undef=if off+k<=q/\q<off+k+vs.length then vs.getD (q-(off+k)) undef else c.getD q undef:=by
 intro vs
 induction vs with
 |nil=>intro k c;refine⟨rfl,fun q hq=>?_⟩;simp;intro h1 h2;omega
 |cons v vs ih=>
  intro k c;simp only[d7o,b9j];obtain⟨h1,h2⟩:=ih (k+1) (c.setIfInBounds (off+k) v);refine⟨by rw[h1];simp,fun q hq=>?_⟩;rw[h2 q (by simpa using hq)]
  by_cases e:q=off+k
  ·subst e;rw[if_neg (by omega),if_pos (by simp)];simp[a3E,hq]
  ·by_cases XZ:off+k<=q/\q<off+k+(v::vs).length
   ·rw[if_pos (by simp at XZ⊢;omega),if_pos XZ];rw[show q-(off+k)=(q-(off+(k+1)))+1 from by omega,List.getD_cons_succ]
   ·rw[if_neg (by simp at XZ⊢;omega),if_neg XZ];simp only[a3E];rw[Array.getElem?_setIfInBounds_ne (Ne.symm e)]
theorem Hj(c:Array Value)(off:Nat)(vs:List Value):(UK c off vs).size=c.size:=(a7C off vs 0 c).1
theorem DF(c:Array Value)(off:Nat)(vs:List Value)(q:Nat)(hq:q<c.size):
 (UK c off vs).getD q undef=if off<=q/\q<off+vs.length then vs.getD (q-off) undef else c.getD q undef:=by
 have:=(a7C off vs 0 c).2 q hq;simpa[UK]using this
theorem a0D{α:Type}(z:List α)(off:Nat)(cs:List α)(h:off+cs.length<=z.length):(YB z off cs).length=z.length:=by
 simp[YB];omega
theorem a1D{α:Type}(z:List α)(off:Nat)(cs:List α)(h:off+cs.length<=z.length)(i:Nat):
 (YB z off cs)[i]? =if off<=i/\i<off+cs.length then cs[i-off]? else z[i]? :=by
 unfold YB;rw[b9Z]
 by_cases h1:i<off
 ·rw[a9L (by simp;omega),if_neg (by omega),a8R,if_pos h1]
 ·rw[a7U (by simp;omega)]
  have e:(z.take off).length=off:=by simp;omega
  rw[e]
  by_cases h2:i<off+cs.length
  ·rw[a9L (by omega),if_pos (by omega)]
  ·rw[a7U (by omega),if_neg (by omega),a8M]
   congr 1;omega
section
variable{A:Nat->Prop}{ψ:Pl}{H:Hp}{w:World}
theorem a2D{z:List AV}{c:Array Value}{off:Nat}{cs:List AV}{vs:List Value}(hz:c.size=z.length)(h1:∀i x,z[i]? =some x->ZL A ψ H w x (c.getD i undef))
 (hl:vs.length=cs.length) (h2:∀i x,cs[i]? =some x->ZL A ψ H w x (vs.getD i undef)) (XZ:off+cs.length<=z.length):
 ∀i x,(YB z off cs)[i]? =some x->ZL A ψ H w x ((UK c off vs).getD i undef):=by
 intro i x hx
 have hi:i<z.length:=by rw[<-a0D z off cs XZ];exact(a5y.1 hx).1
 rw[a1D z off cs XZ]at hx;rw[DF c off vs i (by omega),hl];split at hx
 ·rename_i h;rw[if_pos h];exact h2 _ _ hx
 ·rename_i h;rw[if_neg h];exact h1 _ _ hx
end
section
variable{P:Program}{E:En}{n:Nat}{ψ:Pl}{s:St}{a:Act}{w:World}
variable{dst:Option Nat}{ty:TypeId}{pos:String}{af:Array Edge}{g:Option (Nat×Bool)}{r:V7}{d:Nat}{K:St->AV->Prop}
theorem a3D(h:Z7 E n ψ s a w)(W8:Nat->Option (Nat×Nat)):∀(l:List (Nat×Operand)) (l':List (Nat×Nat×Operand)) (z z':List AV) (c:Array Value),
 (l'.map (·.2.2)=l.map (·.2))->(∀k:Nat,(l'[k]?).map (fun(p:Nat×Nat×Operand)=>(p.1,p.2.1))=(l[k]?).bind fun(p:Nat×Operand)=>W8 p.1)->c.size=z.length->(∀i x,z[i]? =some x->ZL (Im E ψ s.hp) ψ s.hp w x (c.getD i undef))->
 DB s z l'=some z'->∃c',Instr.fill W8 c (l.map fun p=>(p.1,a.eval p.2))=some c'/\c'.size=z'.length/\∀i x,z'[i]? =some x->ZL (Im E ψ s.hp) ψ s.hp w x (c'.getD i undef):=by
 intro l
 induction l with
 |nil=>
  intro l' z z' c hm hp hz hr hf
  cases l' with
  |nil=>simp only[DB,a3y]at hf;subst hf;exact⟨c,rfl,hz,hr⟩
  |cons=>simp at hm
 |cons p l ih=>
  intro l' z z' c hm hp hz hr hf
  cases l' with
  |nil=>simp at hm
  |cons p' l'=>
   obtain⟨i,x⟩:=p;obtain⟨off,q,x'⟩:=p';simp only[a0I,a4U]at hm;obtain⟨rfl,hm⟩:=hm;have h0:=hp 0;simp only[a0F,a8H,a9J]at h0;simp only[DB]at hf;split at hf
   ·rename_i cs hcs;split at hf
    ·rename_i hc;obtain⟨g1,g2⟩:=nc (h.ev x') hcs
     have hlen:(a.eval x').cells.toList.length=cs.length:=by simpa using g1
     obtain⟨c',e1,e2,e3⟩:=ih l' (YB z off cs) z' (UK c off (a.eval x').cells.toList) hm (fun k=>by simpa using hp (k+1))
      (by rw[Hj,a0D _ _ _ (by omega)];exact hz)
      (a2D hz hr hlen (fun i y hy=>by rw[Sn];exact g2 i y hy) (by omega)) hf
     refine⟨c',?_,e2,e3⟩;simp only[a0I,Instr.fill, <-h0];rw[if_neg (by simp;omega)];rw[<-e1]
     congr 1
     unfold UK;rw[<-d6e];simp[d5d]
    ·cases hf
   ·cases hf
theorem a4D(fs:Array Field){β:Type}(f:Field->Sem β)(q:Field->β)(w:World)(h:∀x∈fs,(f x).run P w= .ok (q x) w):(fs.mapM f).run P w= .ok (fs.map q) w:=by
 rw[Array.mapM_eq_mapM_toList];rw[Sem.run_map]
 have key:∀l:List Field,(∀x∈l,(f x).run P w= .ok (q x) w)->(l.mapM f).run P w= .ok (l.map q) w:=by
  intro l
  induction l with
  |nil=>intro _;rfl
  |cons x l ih=>
   intro hl;rw[a0Q,Sem.run_bind,hl x (by simp)];simp only[Result.andThen_ok,Sem.run_bind];rw[ih fun y hy=>hl y (by simp[hy])];rfl
 rw[key fs.toList fun x hx=>h x (by simpa using hx)];simp only[Result.andThen_ok]
 congr 1
 apply b1p;simp
theorem a5D{t:TypeId}{parts:Array (Nat×Operand)}{fs:Array Field}{z:List AV}{l:List (Nat×Nat×Operand)}(hu:P.underlying t=some (.struct fs))
 (hz:QI P t=some z) (Zq:∀f∈fs,(XY P f.type).isSome=true)
 (hl:(parts.toList.mapM fun(p:Nat×Operand)=>do let f<-fs[p.1]?;let q<-XY P f.type;pure (f.offset,q,p.2))=some l)
 (h:Z7 E n ψ s a w) (hk:ZQ P d s K (.build z l)):XR P E n ⟨dst, .build t parts,ty,pos,af,g⟩ a w K:=by
 simp only[ZQ]at hk;obtain⟨i,zv,h1,h2,rfl⟩:=DA hz;split at hk
 ·rename_i cs hcs
  let W8:Nat->Option (Nat×Nat):=((fs.map fun f=>(f.offset,(XY P f.type).getD 0))[·]?)
  have Ul:∀(L:List (Nat×Operand)) (l:List (Nat×Nat×Operand)),(L.mapM fun(p:Nat×Operand)=>do let f<-fs[p.1]?;let q<-XY P f.type;pure (f.offset,q,p.2))=some l->
   (l.map (·.2.2)=L.map (·.2))/\∀k:Nat,(l[k]?).map (fun(p:Nat×Nat×Operand)=>(p.1,p.2.1))=(L[k]?).bind fun(p:Nat×Operand)=>W8 p.1:=by
   intro L
   induction L with
   |nil=>intro l hl;simp at hl;subst hl;exact⟨rfl,by simp⟩
   |cons p L ih=>
    intro l hl;rw[a0Q]at hl
    cases hf:fs[p.1]? with
    |none=>simp[hf]at hl
    |some f=>
     cases hq:XY P f.type with
     |none=>simp[hf,hq]at hl
     |some q=>
      cases hr:(L.mapM fun(p:Nat×Operand)=>do let f<-fs[p.1]?;let q<-XY P f.type;pure (f.offset,q,p.2))with
      |none=>simp only[hf,hq,a5V,a9J]at hl hr;rw[hr]at hl;simp at hl
      |some l0=>
       simp only[hf,hq,a5V,a9J]at hl hr;rw[hr]at hl;simp at hl;subst hl;obtain⟨g1,g2⟩:=ih l0 (by simpa using hr);refine⟨by simp[g1],fun k=>?_⟩
       cases k with
       |zero=>simp[W8,hf,hq]
       |succ k=>simpa using g2 k
  obtain⟨p1,p2⟩:=Ul _ _ hl
  obtain⟨c',e1,e2,e3⟩:=a3D h W8 parts.toList l _ cs zv.cells p1 p2 (by rw[G4];simp) (fun j x hx=>by
   obtain⟨sz,e⟩:=mM _ _ _ _ hx;rw[e,Sn]
   exact CK _ _) hcs
  refine VZ h (v:= .agg c') (fun w=>?_) hk (.agg _ _ e2 e3)
  have hm:=a4D (P:=P) fs (fun f=>do pure (f.offset, <-sizeOf f.type)) (fun f=>(f.offset,(XY P f.type).getD 0)) w (fun f hf=>by
   have:=Zq f hf
   cases hq:XY P f.type with
   |none=>rw[hq]at this;cases this
   |some q=>simp[run_sizeOf w hq])
  have MR:(parts.map fun(i,x)=>(i,a.eval x)).toList=parts.toList.map fun p=>(p.1,a.eval p.2):=by simp
  simp only[execOp,Instr.build,Sem.run_bind,G3 h1 h2,Result.andThen_ok,run_underlying w hu,hm,MR];have e1':Instr.fill (fun x=>(Array.map (fun f=>(f.offset,(XY P f.type).getD 0)) fs)[x]?) zv.cells (parts.toList.map fun p=>(p.1,a.eval p.2))=some c':=e1;simp only[e1',Sem.run_pure,Result.andThen_ok]
 ·exact hk.elim
theorem a6D{t e:TypeId}{len q:Nat}{parts:Array (Nat×Operand)}{z:List AV}(hu:P.underlying t=some (.array len e))
 (hq:XY P e=some q) (hz:QI P t=some z)
 (h:Z7 E n ψ s a w) (hk:ZQ P d s K (.build z (parts.toList.map fun p=>(p.1*q,q,p.2)))):XR P E n ⟨dst, .build t parts,ty,pos,af,g⟩ a w K:=by
 simp only[ZQ]at hk;obtain⟨i,zv,h1,h2,rfl⟩:=DA hz;split at hk
 ·rename_i cs hcs
  obtain⟨c',e1,e2,e3⟩:=a3D h (fun i=>some (i*q,q)) parts.toList _ _ cs zv.cells (by simp[b7A]) (fun k=>by simp[b7A];cases parts[k]? <;>rfl) (by rw[G4];simp) (fun j x hx=>by
   obtain⟨sz,e⟩:=mM _ _ _ _ hx;rw[e,Sn]
   exact CK _ _) hcs
  refine VZ h (v:= .agg c') (fun w=>?_) hk (.agg _ _ e2 e3)
  have MR:(parts.map fun(i,x)=>(i,a.eval x)).toList=parts.toList.map fun p=>(p.1,a.eval p.2):=by simp
  simp only[execOp,Instr.build,Sem.run_bind,G3 h1 h2,Result.andThen_ok,run_underlying w hu,run_sizeOf w hq,MR];simp only[e1,Sem.run_pure,Result.andThen_ok]
 ·exact hk.elim
theorem a7D(b o:Nat):∀(vs:List Value) (i:Nat) (w:World) (c:Array Value) (e:TypeId),w.heap[b]? =some (.cells c e (0,0))->(∀v∈vs,v.oneCell'=true)->o+i+vs.length<=c.size->
 ∃w',(storeCells ⟨b,o,none⟩ vs i).run P w= .ok () w'/\(∀j,j≠b->w'.heap[j]? =w.heap[j]?)/\w'.heap.size=w.heap.size/\(w'.os=w.os/\w'.tape=w.tape/\w'.output=w.output/\w.drawn<=w'.drawn)∧
  w'.heap[b]? =some (.cells (((vs.zipIdx i).foldl (fun cs (x,j)=>cs.setIfInBounds (o+j) x) c)) e (0,0)):=by
 intro vs
 induction vs with
 |nil=>intro i w c e hb _ _;exact⟨w,rfl,fun _ _=>rfl,rfl,⟨rfl,rfl,rfl,a8F _⟩,hb⟩
 |cons v vs ih=>
  intro i w c e hb hv hl;have hv1:=hv v (by simp)
  have Z2:o+i<c.size:=by simp at hl;omega
  have SU:w.cell? ⟨b,o+i,none⟩=some (c.getD (o+i) undef):=G2 hb Z2
  have hfz:w.frozen? ⟨b,o+i,none⟩=false:=by simp[World.frozen?,hb]
  obtain⟨w',r1,r2,r3,r4,r5⟩:=ih (i+1) (w.setCell ⟨b,o+i,none⟩ v) (c.setIfInBounds (o+i) v) e (e6r w b (o+i) v hb) (fun x hx=>hv x (by simp[hx])) (by simp at hl⊢;omega);refine⟨w',?_,fun j hj=>(r2 j hj).trans (e5r w _ v j hj),by rw[r3];simp[World.setCell],r4,?_⟩
  ·simp only[storeCells,Sem.run_bind,Dz,run_store P w _ _ _ hv1,SU,hfz];exact r1
  ·simpa[d7o]using r5
theorem a8D{z:List AV}{vs:List Value}{A:Nat->Prop}{H:Hp}(hl:vs.length=z.length)(h:∀i x,z[i]? =some x->ZL A ψ H w x (vs.getD i undef))(ho:z.all AV.one=true):
 ∀v∈vs,v.oneCell'=true:=by
 intro v hv;obtain⟨i,hi,rfl⟩:=d7f hv;have hz:z[i]? =some z[i]:=a4G (by omega);have:=h i _ hz;rw[show vs.getD i undef=vs[i]from by simp[a7V,hi]]at this;exact this.one (a8C.1 ho _ (a6y hz))
theorem a9D(h:Z7 E n ψ s a w){cs:List AV}{vs:List Value}(hl:vs.length=cs.length)(hc:∀i x,cs[i]? =some x->ZL (Im E ψ s.hp) ψ s.hp w x (vs.getD i undef))
 {l:List IV} (hm:cs.mapM AV.iv?=some l):l.length=cs.length/\∀i x,l[i]? =some x->Yq (Im E ψ s.hp) w x (vs.getD i undef):=by
 induction cs generalizing vs l with
 |nil=>simp at hm;subst hm;exact⟨rfl,by simp⟩
 |cons x cs ih=>
  cases vs with
  |nil=>simp at hl
  |cons v vs=>
   simp only[a0Q,a5V]at hm
   cases hx:x.iv? with
   |none=>rw[hx]at hm;cases hm
   |some y=>
    rw[hx]at hm
    cases hr:cs.mapM AV.iv? with
    |none=>rw[hr]at hm;cases hm
    |some l0=>
     rw[hr]at hm;simp at hm;subst hm;obtain⟨g1,g2⟩:=ih (by simpa using hl) (fun i z hz=>by simpa using hc (i+1) z (by simpa using hz)) hr;refine⟨by simp[g1],fun i z hz=>?_⟩
     cases i with
     |zero=>
      simp at hz;subst hz;have h0:=hc 0 x rfl;simp only[c4B]at h0⊢
      cases x with
      |iv q=>simp[AV.iv?]at hx;subst hx;cases h0 with|iv _ _ h=>exact h
      |nil sz=>simp[AV.iv?]at hx;subst hx;rw[CJ h0];exact .V5 _
      | _=>simp[AV.iv?]at hx
     |succ i=>simp only[a5J]at hz;simpa using g2 i z hz
end
section
variable{P:Program}{E:En}{n:Nat}{ψ:Pl}{s:St}{a:Act}{w:World}
variable{dst:Option Nat}{ty:TypeId}{pos:String}{af:Array Edge}{g:Option (Nat×Bool)}{r:V7}{d:Nat}{K:St->AV->Prop}
theorem Z7.YX(h:Z7 E n ψ s a w)(xs:List AV):Z7 E n ψ (s.YX xs) a w:=by
 unfold St.YX;generalize xs.flatMap AV.ids=l
 induction l generalizing s with
 |nil=>exact h
 |cons i l ih=>
  simp only[b9j];split
  ·rename_i hi;exact ih (h.drop hi)
  ·exact ih h
theorem e9o(
 h:Z7 E n ψ s a w) (sz:Nat):∀(L:List (Nat×Operand)) (i N:Nat) (c:Array Value) (xs:List (List IV)),
 L.map (·.1)=List.range' i L.length->c.size=N*sz->i+L.length<=N->Ru s sz L=some xs->
 ∃c',Instr.fill (fun k=>some (k*sz,sz)) c (L.map fun p=>(p.1,a.eval p.2))=some c'/\c'.size=c.size/\(∀q,q<i*sz->c'.getD q undef=c.getD q undef)∧
  xs.length=L.length/\(∀x∈xs,x.length=sz)/\∀k j x,at2 xs k j=some x->Yq (Im E ψ s.hp) w x (c'.getD ((i+k)*sz+j) undef):=by
 intro L
 induction L with
 |nil=>
  intro i N c xs _ hc _ hl;simp only[Ru,a3y]at hl;subst hl;exact⟨c,rfl,rfl,fun _ _=>rfl,rfl,by simp,by simp[at2]⟩
 |cons p L ih=>
  intro i N c xs hi hc hN hl;obtain⟨k,x⟩:=p;simp only[a0I,a4S,List.range'_succ,a4U]at hi;obtain⟨rfl,hi⟩:=hi;simp only[Ru]at hl;split at hl
  ·rename_i q hq;split at hl
   ·rename_i hqs
    cases hcs:(s.ev x).cellsOf with
    |none=>rw[hcs]at hq;cases hq
    |some cs=>
     rw[hcs]at hq;simp only[a9J]at hq
     cases hr:Ru s sz L with
     |none=>rw[hr]at hl;cases hl
     |some xs0=>
      rw[hr]at hl;simp only[a8H,a3y]at hl;subst hl;obtain⟨g1,g2⟩:=nc (h.ev x) hcs
      have hlen:(a.eval x).cells.toList.length=cs.length:=by simpa using g1
      obtain⟨v1,v2⟩:=a9D h hlen (fun j y hy=>by rw[Sn];exact g2 j y hy) hq;simp only[a4S]at hN;have hm:(k+1)*sz<=N*sz:=a0G sz (by omega)
      have e2:(k+1)*sz=k*sz+sz:=by rw[a4N];omega
      have Ya:(a.eval x).cells.size=sz:=by omega
      obtain⟨c',f1,f2,f3,f4,f5,f6⟩:=ih (k+1) N (UK c (k*sz) (a.eval x).cells.toList) xs0 hi (by rw[Hj];exact hc) (by omega) hr;refine⟨c',?_,by rw[f2,Hj],fun j hj=>?_,by simp[f4],?_,?_⟩
      ·simp only[a0I,Instr.fill];rw[if_neg (by simp;omega)];rw[<-f1]
       congr 1
       unfold UK;rw[<-d6e];simp[d5d]
      ·rw[f3 j (by omega),DF _ _ _ _ (by omega),if_neg (by omega)]
      ·intro y hy
       rcases List.mem_cons.1 hy with rfl|hy
       ·exact hqs
       ·exact f5 y hy
      ·intro i' j y hy
       cases i' with
       |zero=>
        simp only[at2,a0F,a9J]at hy
        have hj:j<sz:=by rw[<-hqs];exact(a5y.1 hy).1
        rw[b1H,f3 _ (by omega),DF _ _ _ _ (by omega),if_pos ⟨by omega,by simp;omega⟩];rw[show k*sz+j-k*sz=j from by omega];exact v2 j y hy
       |succ i'=>
        have:=f6 i' j y (by simpa[at2]using hy);rw[show k+(i'+1)=k+1+i' from by omega];exact this
   ·cases hl
  ·cases hl
theorem e0p{o:Oper}{sz:Nat}{xs:List (List IV)}{c:Array Value}{t:TypeId}{cap:Nat}(hd:d<1000)(h:Z7 E n ψ s a w)(YQ:look s.hp d=none)
 (hs:∀x∈xs,x.length=sz) (hlen:xs.length*sz<=c.size) (WT:xs.length<=cap) (DR:cap*sz<=c.size) (hcm:cap<2^63)
 (hc:∀i j x,at2 xs i j=some x->Yq (Im E ψ s.hp) w x (c.getD (i*sz+j) undef)) {w1:World} (hx:Ext w w1)
 (hr:(execOp a.eval o).run P w= .ok (.value (.slice (some ⟨w1.heap.size,0,none⟩) xs.length cap)) (w1.alloc (.cells c t)))
 (hk:K (s.add d (.list sz xs)) (.sl d sz 0 xs.length)):XX P E n o a w K:=by
 have hx2:Ext w (w1.alloc (.cells c t)):=hx.trans (Ext.alloc _ _)
 have h2:=h.new (o:= .list sz xs) (p:=some (w1.heap.size,(0,c.size))) hd YQ hx2 (fun b k e=>by cases e;exact hx.size)
  ⟨hs, .inr ⟨w1.heap.size,(0,c.size),c,t,by simp[XE],mL _ _,by simp,hlen,fun i j x Vq=>by rw[b5D];exact(hc i j x Vq).mono (fun b hb hi=>⟨hb,hi⟩) (fun b hb _=>hx2.block b hb)⟩⟩
 refine Sh hr hk h2 (.sl d sz 0 xs.length w1.heap.size (0,c.size) cap _ (.list sz xs) xs.length (by simp[WL]) rfl (by omega) (by simp[XE]) (fun _=>by simp) WT (by simpa using DR) hcm)
theorem e1p{t e:TypeId}{len sz:Nat}{parts:Array (Nat×Operand)}(hu:P.underlying t=some (.slice e))(Ya:XY P e=some sz)(hp1:parts.size=len)
 (MR:parts.toList.map (·.1)=a7I len) (hp3:0<sz) (hp4:len*sz<=2^24) {z:List AV} (hz:QI P e=some z) (hd:d<1000) (h:Z7 E n ψ s a w)
 (hk:ZQ P d s K (.lit sz len parts.toList)):XX P E n ⟨dst, .buildSlice t len parts,ty,pos,af,g⟩ a w K:=by
 simp only[ZQ]at hk;split at hk
 ·rename_i xs IU;have h1:=(h.YX (parts.toList.map fun p=>s.ev p.2)).drop (id:=d) hd;obtain⟨i,zv,z1,z2,_⟩:=DA hz
  have hL:parts.toList.length=len:=by simpa using hp1
  let zero:Array Value:=if len*sz=0 then#[]else zv.cells
  let c0:Array Value:=(d8Q (len*sz)).map (zero[· %zero.size]!)
  obtain⟨c',f1,f2,f3,f4,f5,f6⟩:=e9o h1 sz parts.toList 0 len c0 xs (by rw[MR,hL,List.range_eq_range']) (by simp[c0]) (by omega) IU
  have hx:xs.length=len:=by omega
  have hcs:c'.size=len*sz:=by rw[f2];simp[c0]
  have hp:(parts.map fun(i,x)=>(i,a.eval x)).toList=parts.toList.map fun p=>(p.1,a.eval p.2):=by simp
  have hz0:(if len*sz=0 then(pure #[]:Sem (Array Value))else do pure (<-zeroValue e).cells).run P w= .ok zero w:=by
   by_cases h0:len*sz=0
   ·simp[zero,h0]
   ·simp only[zero,if_neg h0,Sem.run_bind,G3 z1 z2,Result.andThen_ok,Sem.run_pure]
  refine e0p (c:=c') (t:=e) (cap:=len) hd h1 (LI _ _) f5 (by rw[hx,hcs];exact a8F _) (by omega) (by omega) (by have h9:len*1<=len*sz:=Nat.mul_le_mul_left _ hp3;omega) (fun i j x Xu=>by simpa using f6 i j x Xu) (Ext.refl w) ?_ (by rw[hx];exact hk);rw[hx]
  have f1':Instr.fill (fun i=>some (i*sz,sz)) ((d8Q (len*sz)).map (zero[· %zero.size]!)) (parts.toList.map fun p=>(p.1,a.eval p.2))=some c':=f1;simp only[execOp,Instr.buildSlice,Sem.run_bind,run_underlying w hu,Result.andThen_ok,run_sizeOf w Ya,if_neg (show ¬len*sz>2^24 by omega),hp]
  by_cases h0:len*sz=0
  ·have e0:zero= #[]:=if_pos h0;rw[e0]at f1';simp only[if_pos h0,Sem.run_bind,Sem.run_pure,Result.andThen_ok,f1',newRow,run_newObj];rfl
  ·have e0:zero=zv.cells:=if_neg h0;rw[e0]at f1';simp only[if_neg h0,Sem.run_bind,G3 z1 z2,Sem.run_pure,Result.andThen_ok,f1',newRow,run_newObj];rfl
 ·exact hk.elim
end
section
variable{P:Program}{E:En}{n:Nat}{ψ:Pl}{s:St}{a:Act}{w:World}
variable{dst:Option Nat}{ty:TypeId}{pos:String}{af:Array Edge}{g:Option (Nat×Bool)}{r:V7}{d:Nat}{K:St->AV->Prop}
theorem Z7.renew(h:Z7 E n ψ s a w){id:Nat}(Vi:id<1000){o o':Ob}(hold:look s.hp id=some o)(Sy:o'.org id=o.org id){p:Option (Nat×(Nat×Nat))}{w':World}
 (hw:∀b,b<w.heap.size->(∀k,ψ id≠some (b,k))->w'.heap[b]? =w.heap[b]?) (Ya:w.heap.size<=w'.heap.size) (hs:w'.os=w.os/\w'.tape=w.tape/\w'.output=w.output/\w.drawn<=w'.drawn)
 (hp:∀b k,p=some (b,k)->w.heap.size<=b\/∃k0,ψ id=some (b,k0))
 (ho:WU (fun b=>b<w.heap.size/\Im E ψ s.hp b) (XE ψ id p) ((s.lone id).add id o').hp w' id o'):
 Z7 E n (XE ψ id p) ((s.lone id).add id o') a w':=by
 have Z2:∀{k o b},look s.hp k=some o->ZZ ψ k b->b<w.heap.size:=fun hk hb=>h.lt hk hb
 have Xj:∀k,look ((s.lone id).add id o').hp k=if id=k then some o' else(look s.hp k).map (Ob.ZS (AV.kc (· ==id))):=by
  intro k;rw[WL,e1r]
 have back:∀{k ob},look ((s.lone id).add id o').hp k=some ob->(id=k/\ob=o')\/(id≠k/\∃o1,look s.hp k=some o1/\ob=o1.ZS (AV.kc (· ==id))):=by
  intro k ob hk;rw[Xj]at hk
  by_cases e:id=k
  ·rw[if_pos e]at hk;exact .inl ⟨e,by simpa using hk.symm⟩
  ·rw[if_neg e]at hk
   cases ho:look s.hp k with
   |none=>rw[ho]at hk;cases hk
   |some o1=>rw[ho]at hk;exact .inr ⟨e,o1,rfl,by simpa using hk.symm⟩
 have hpo:∀{b},ZZ (XE ψ id p) id b->w.heap.size<=b\/ZZ ψ id b:=by
  intro b hb;obtain⟨q,hb⟩:=e3r _ _ hb
  rcases hp b q hb with h4|⟨k0,h4⟩
  ·exact .inl h4
  ·exact .inr (.inl ⟨k0,h4⟩)
 have hI:∀b,b<w.heap.size->Im E ψ s.hp b->Im E (XE ψ id p) ((s.lone id).add id o').hp b:=by
  rintro b hb ⟨h1,h2⟩;refine⟨h1,?_⟩;rintro⟨k,ob,hk,hq⟩
  rcases back hk with⟨rfl,_⟩|⟨ZV,o1,h3,_⟩
  ·rcases hpo hq with h4|h4
   ·omega
   ·exact h2 ⟨id,o,hold,h4⟩
  ·exact h2 ⟨k,o1,h3,(Ix p (Ne.symm ZV)).1 hq⟩
 have Uq:∀b,b<w.heap.size->Im E ψ s.hp b->w'.heap[b]? =w.heap[b]? :=fun b hb hi=>hw b hb fun k e=>hi.2 ⟨id,o,hold, .inl ⟨k,e⟩⟩
 have hk:c5E (· ==id) ψ (XE ψ id p) s.hp ((s.lone id).add id o').hp:=by
  intro k ob hk PF
  have ZV:id≠k:=by intro e;simp[e]at hk
  refine⟨⟨_,by rw[Xj,if_neg ZV,PF];rfl,Ob.R8 _ ob⟩,by simp[XE,Ne.symm ZV]⟩
 have hf:=c6E (p:=(· ==id)) hI Uq hk;refine {size:=h.size,defers:=h.defers.mono hI Uq,frame:=fun x=>?_,YC:=?_,inj:=?_,own:=?_,YU:=?_,par:=?_,old:=?_,grow:=?_,same:=?_}
 ·have e:((s.lone id).add id o').get x=(s.get x).ZS (AV.kc (· ==id)):=St.TM _ rfl x;rw[e];exact(h.frame x).ZS hf (fun _=>rfl) (fun _=>rfl)
 ·intro k ob PF
  rcases back PF with⟨rfl,rfl⟩|⟨ZV,o1,h3,rfl⟩
  ·exact ho.mono (fun b _ hb=>hI b hb.1 hb.2) (fun _ _ _=>rfl) (U8.refl _ _) ⟨rfl,fun _ h=>h⟩ (fun _ _=>rfl)
  ·have VY:XE ψ id p k=ψ k:=by simp[XE,Ne.symm ZV]
   have hblk:∀b,ZZ ψ k b->w'.heap[b]? =w.heap[b]? :=fun b hb=>hw b (Z2 h3 hb) fun q' e=>ZV (h.inj id k o o1 b hold h3 (.inl ⟨q',e⟩) hb)
   cases o1 with
   |box cs=>
    obtain⟨b,c,e,g1,g2,g3,g4⟩:=h.YC k _ h3;refine⟨b,c,e,by rw[VY];exact g1,by rw[hblk b (.inl ⟨_,g1⟩)];exact g2,by simpa using g3,fun i x hx=>?_⟩
    rw[a1C]at hx
    cases V9:cs[i]? with
    |none=>rw[V9]at hx;cases hx
    |some c0=>
     rw[V9]at hx;cases hx;have h6:=g4 i c0 V9
     cases c0 with
     |agg l=>exact .junk _
     |Zp l=>exact .junk _
     | _=>exact hf _ _ h6 (by simp) (by simp)
   |gh Z vs cs=>
    obtain⟨g1,g2,g3,g4⟩:=h.YC k _ h3;refine⟨by rw[VY];exact g1,g2.mono hI (fun b hb=>⟨Ne.symm ZV,hb⟩) Uq (fun b hb=>hblk b (.inr hb)),by simpa using g3,fun i x hx=>?_⟩
    rw[a1C]at hx
    cases V9:cs[i]? with
    |none=>rw[V9]at hx;cases hx
    |some c0=>rw[V9]at hx;cases hx;exact(g4 i c0 V9).ZS hf (fun _=>rfl) (fun _=>rfl)
   | _=>exact(h.YC k _ h3).move (by constructor<;>(intros;intro e;cases e)) hI Uq ⟨VY,fun b hb=>⟨Ne.symm ZV,hb⟩⟩ hblk
 ·intro i i' o1 o2 b hi Vg hb XH
  rcases back hi with⟨rfl,_⟩|⟨e1,r1,g1,_⟩<;>rcases back Vg with⟨e2,_⟩|⟨e2,r2,g2,_⟩
  ·exact e2
  ·have XH:=(Ix p (Ne.symm e2)).1 XH
   rcases hpo hb with h4|h4
   ·have:=Z2 g2 XH;omega
   ·exact h.inj id i' o r2 b hold g2 h4 XH
  ·subst e2;have hb:=(Ix p (Ne.symm e1)).1 hb
   rcases hpo XH with h4|h4
   ·have:=Z2 g1 hb;omega
   ·exact h.inj i id r1 o b g1 hold hb h4
  ·exact h.inj i i' r1 r2 b g1 g2 ((Ix p (Ne.symm e1)).1 hb) ((Ix p (Ne.symm e2)).1 XH)
 ·intro i o1 b hi hb
  rcases back hi with⟨rfl,rfl⟩|⟨e1,r1,g1,rfl⟩
  ·rcases hpo hb with h4|h4
   ·exact .inr (.inr (a0N h.grow h4))
   ·rw[Sy];exact h.own id o b hold h4
  ·rw[Ob.TL];exact h.own i r1 b g1 ((Ix p (Ne.symm e1)).1 hb)
 ·intro i o1 b hi hb
  rcases back hi with⟨rfl,_⟩|⟨e1,r1,g1,rfl⟩
  ·exact absurd rfl hb.1
  ·obtain⟨q1,q2,q3⟩:=h.YU i r1 b g1 hb.2;rw[Ob.Vv];exact⟨q1,a6R q2 Ya,fun k=>by simp only[XE,if_neg hb.1];exact q3 k⟩
 ·intro i hi
  have:i≠id:=by have:=E.big i hi;omega
  simp only[XE,if_neg this];exact h.par i hi
 ·intro b hb hm;rw[hw b (a6R hb h.grow) ?_]
  ·exact h.old b hb hm
  ·intro k e
   rcases h.own id o b hold (.inl ⟨k,e⟩)with⟨h1,h2⟩|h1
   ·exact hm (.inl ⟨_,h1,h2⟩)
   ·exact E.no hb hm h1
 ·exact a0N h.grow Ya
 ·exact⟨hs.1.trans h.same.1,hs.2.1.trans h.same.2.1,hs.2.2.1.trans h.same.2.2.1,a0N h.same.2.2.2 hs.2.2.2⟩
theorem b3A{w2:World}(sz k:Nat)(b o cap:Nat)(vs:List Value)(hl:vs.length=k*sz)(h:∀q,q<k*sz->w2.cell? ⟨b,o+q,none⟩=vs[q]?)(m:Nat):
 (Builtin.firstCells sz k (.slice (some ⟨b,o,none⟩) m cap)).run P w2= .ok vs.toArray w2:=by
 simp only[Builtin.firstCells, <-hl];exact e4o w2 b o vs (fun j hj=>h j (by omega))
theorem b4A{xs:List (List IV)}{sz:Nat}(hs:∀x∈xs,x.length=sz){q:Nat}(hq:q<xs.length*sz):∃x,at2 xs (q/sz) (q%sz)=some x:=by
 have W0:0<sz:=by
  rcases b0q sz with h|h; ·rw[h]at hq;omega
  ·exact h
 have h1:q/sz<xs.length:=Nat.div_lt_of_lt_mul (by rw[c2t];exact hq);have hr:xs[q/sz]? =some xs[q/sz]:=a4G h1
 have h2:q%sz<xs[q/sz].length:=by rw[hs _ (d7n h1)];exact d2T _ W0
 exact⟨_,mX hr (a4G h2)⟩
theorem b5A(
 h:Z7 E n ψ s a w) {x:AV} {v:Value} (hx:ZL (Im E ψ s.hp) ψ s.hp w x v) {sz YH:Nat} {ys:List (List IV)} (he:s.elems x=some (YH,ys)) (hz:YH=sz\/ys=[]):
 ∃vs:List Value,vs.length=ys.length*sz/\(∀w2:World,w2.heap=w.heap->(Builtin.firstCells sz ys.length v).run P w2= .ok vs.toArray w2)/\(∀y∈ys,y.length=sz)∧
  (∀i j y,at2 ys i j=some y->Yq (Im E ψ s.hp) w y (vs.getD (i*sz+j) undef))/\(∀u∈vs,u.oneCell'=true)/\∃ad cap,v= .slice ad ys.length cap:=by
 have build:∀(b o cap m:Nat) (f:Nat->Value),v= .slice (some ⟨b,o,none⟩) m cap->m=ys.length->(∀y∈ys,y.length=sz)->(∀q,q<ys.length*sz->w.cell? ⟨b,o+q,none⟩=some (f q))->
  (∀i j y,at2 ys i j=some y->Yq (Im E ψ s.hp) w y (f (i*sz+j)))->
  ∃vs:List Value,vs.length=ys.length*sz/\(∀w2:World,w2.heap=w.heap->(Builtin.firstCells sz ys.length v).run P w2= .ok vs.toArray w2)/\(∀y∈ys,y.length=sz)∧
  (∀i j y,at2 ys i j=some y->Yq (Im E ψ s.hp) w y (vs.getD (i*sz+j) undef))/\(∀u∈vs,u.oneCell'=true)/\∃ad cap,v= .slice ad ys.length cap:=by
  intro b o cap m f hv hm hs hc hr;subst hm
  have Z2:∀{i j y},at2 ys i j=some y->i*sz+j<ys.length*sz:=by
   intro i j y hy;obtain⟨r,h1,h2⟩:=IE hy;have h3:=(a5y.1 h1).1
   have h4:j<sz:=by rw[<-hs r (a6y h1)];exact(a5y.1 h2).1
   have h5:(i+1)*sz<=ys.length*sz:=a0G sz (by omega)
   have h6:(i+1)*sz=i*sz+sz:=by rw[a4N];omega
   omega
  refine⟨(a7I (ys.length*sz)).map f,by simp,fun w2 H4=>?_,hs,fun i j y hy=>?_,fun u hu=>?_,_,_,hv⟩
  ·rw[hv];refine b3A sz ys.length b o cap _ (by simp) (fun q hq=>?_) _
   have:w2.cell? ⟨b,o+q,none⟩=w.cell? ⟨b,o+q,none⟩:=by simp only[World.cell?,H4]
   rw[this,hc q hq];simp[hq]
  ·rw[show((a7I (ys.length*sz)).map f).getD (i*sz+j) undef=f (i*sz+j)from by simp[a7V,Z2 hy]];exact hr i j y hy
  ·obtain⟨q,hq,rfl⟩:=a0E.1 hu
   have hq:q<ys.length*sz:=by simpa using hq
   obtain⟨y,hy⟩:=b4A hs hq;have:=hr _ _ _ hy;rw[c2t,d0C]at this;exact this.one
 have empty:ys=[]->(∃ad cap,v= .slice ad 0 cap)->∃vs:List Value,vs.length=ys.length*sz/\(∀w2:World,w2.heap=w.heap->(Builtin.firstCells sz ys.length v).run P w2= .ok vs.toArray w2)/\(∀y∈ys,y.length=sz)∧
  (∀i j y,at2 ys i j=some y->Yq (Im E ψ s.hp) w y (vs.getD (i*sz+j) undef))/\(∀u∈vs,u.oneCell'=true)/\∃ad cap,v= .slice ad ys.length cap:=by
  rintro rfl ⟨ad,cap,rfl⟩;refine⟨[],by simp,fun w2 _=>?_,by simp,by simp[at2],by simp,ad,cap,rfl⟩
  cases ad<;>simp[Builtin.firstCells,loadCells,loadCellsFrom]
 unfold St.elems at he;split at he
 ·rename_i Zz xs;cases he
  rcases b1P hx with⟨rfl,hv⟩|⟨b,off,cap,ad,vs,g1,g2,g3,g4,g5,hv⟩
  ·exact empty rfl ⟨none,0,hv⟩
  ·by_cases ZV:ys=[]
   ·exact empty ZV ⟨some ad,cap,by rw[hv,ZV];rfl⟩
   ·have Hh:YH=sz:=hz.resolve_right ZV;subst Hh;have g1:=g1 ZV;subst g1;refine build b off cap ys.length (fun q=>vs (q/YH) (q%YH)) hv rfl g2 (fun q hq=>?_) (fun i j y hy=>?_)
    ·obtain⟨y,hy⟩:=b4A g2 hq;have:=(g4 _ _ _ hy).2;rw[c2t,d0C]at this;exact this
    ·have hj:j<YH:=by
      obtain⟨r,h1,h2⟩:=IE hy;rw[<-g2 r (a6y h1)];exact(a5y.1 h2).1
     have e1:(i*YH+j)/YH=i:=by rw[c2t,Nat.mul_add_div (by omega),Nat.div_eq_of_lt hj,b1H]
     have e2:(i*YH+j)%YH=j:=by rw[c2t,Nat.mul_add_mod,Nat.mod_eq_of_lt hj]
     simp only[e1,e2];exact g5 i j y hy
 ·rename_i Zz;cases he;exact empty rfl ⟨none,0,CJ hx⟩
 ·rename_i id Zz lo m;split at he
  ·rename_i o ho;split at he
   ·rename_i z0 xs Xm;cases he;obtain⟨o',xm,q1,Sb,q2,X4⟩:=HS hx;rw[ho]at q1;cases q1;have hd:=c2R Xm;rw[Sb]at hd;simp only[a3y,a2L]at hd;obtain⟨hd1,DC⟩:=hd;subst hd1;subst DC
    rcases X4 with⟨p1,rfl,rfl,hv⟩|⟨b,k,cap,ad,p1,p2,p3,p4,hv⟩
    ·exact empty (by simp) ⟨none,0,hv⟩
    ·have hlen:((xs.drop lo).take m).length=m:=by simp;omega
     by_cases hm:m=0
     ·subst hm;exact empty (by simp) ⟨some ad,cap,hv⟩
     ·have Hh:=hz.resolve_right (by intro e;rw[e]at hlen;simp at hlen;omega)
      subst Hh;have p2:=p2 (by omega);subst p2;obtain⟨h0,h5⟩:=c0R Xm (h.YC id _ ho)
      rcases h5 with⟨h1,_⟩|⟨b',k',c,e,h1,h2,SX,h3,h4⟩
      ·rw[h1]at p1;cases p1
      rw[h1]at p1;cases p1;refine build b (k.1+lo*YH) cap m (fun q=>c.getD (k.1+(lo*YH+q)) undef) hv hlen.symm (fun y hy=>h0 y (b1J (a6U hy))) (fun q hq=>?_) (fun i j y hy=>?_)
      ·rw[hlen]at hq;have Iw:(lo+m)*YH<=xs.length*YH:=a0G YH q2;have:(lo+m)*YH=lo*YH+m*YH:=a4N _ _ _;rw[b5O];exact G2 h2 (by omega)
      ·have:=h4 _ _ _ (d9z _ _ _ _ _ _ hy);rw[a4N,b5O]at this;exact this
   ·cases he
  ·cases he
 ·cases he
end
theorem d6T(need c:Nat)(h:c<need)(h2:256<=c):∀r,Builtin.growBy need r c<=2*need:=by
 intro r
 induction r generalizing c with
 |zero=>simp[Builtin.growBy];omega
 |succ r ih=>
  unfold Builtin.growBy;split
  ·omega
  ·by_cases h3:c+(c+768)/4<need
   ·exact ih _ h3 (by omega)
   ·have:Builtin.growBy need r (c+(c+768)/4)=c+(c+768)/4:=by
     cases r with
     |zero=>rfl
     |succ r=>unfold Builtin.growBy;rw[if_pos (by omega)]
    rw[this];omega
theorem d7T(need old:Nat)(h:old<need):Builtin.nextslicecap need old<=2*need:=by
 unfold Builtin.nextslicecap;split
 ·omega
 ·split
  ·omega
  ·exact d6T need old h (by omega) 4
section
variable{P:Program}{E:En}{n:Nat}{ψ:Pl}{s:St}{a:Act}{w:World}
variable{dst:Option Nat}{ty:TypeId}{pos:String}{af:Array Edge}{g:Option (Nat×Bool)}{r:V7}{d:Nat}{K:St->AV->Prop}
theorem d8T{x y:Operand}{ts:Array TypeId}{v:Value}{w':World}(hv:(Builtin.append_ ts ty #[a.eval x,a.eval y]).run P w= .ok v w'):
 (execOp a.eval ⟨dst, .call ⟨.builtin .append, #[x,y],ts⟩,ty,pos,af,g⟩).run P w= .ok (.value v) w':=by
 simp only[execOp,resolve,Sem.run_bind,Sem.run_pure,Result.andThen_ok,invoke,builtin];simp[hv]
theorem d9T{t u e:TypeId}{sz m cap cy ny:Nat}{base ady:Option Addr}{vs:List Value}{ts:Array TypeId}(h0:ts[0]? =some t)(h1:ts[1]? =some u)
 (hu:P.underlying t=some (.slice e)) (KA:∃e2,P.underlying u=some (.slice e2)) (Ya:XY P e=some sz) {w w':World} (VG:m+ny<=cap)
 (Oh:(Builtin.firstCells sz ny (.slice ady ny cy)).run P w= .ok vs.toArray w)
 (YD:∀ad,base=some ad->(storeCells (ad.add (m*sz)) vs).run P w= .ok () w') (g3U:base=none->w'=w):
 (Builtin.append_ ts ty #[.slice base m cap, .slice ady ny cy]).run P w= .ok (.slice base (m+ny) cap) w':=by
 obtain⟨e2,KA⟩:=KA;unfold Builtin.append_
 simp only[h0,c7y,a0F,a5J,Sem.run_bind,run_underlying w hu,run_underlying w KA,run_sizeOf w Ya,Result.andThen_ok,h1,Sem.run_pure,
  a1N,if_false,Builtin.lenOf,if_pos VG,d6O,if_true,Oh]
 cases base with
 |none=>rw[g3U rfl];rfl
 |some ad=>simp only[Sem.run_bind,YD ad rfl,Result.andThen_ok,Sem.run_pure]
theorem d0U{t u e:TypeId}{sz m cap cy ny:Nat}{base ady:Option Addr}{vs us:List Value}{ts:Array TypeId}{i:TypeInfo}{zv:Value}(h0:ts[0]? =some t)(h1:ts[1]? =some u)
 (hu:P.underlying t=some (.slice e)) (KA:∃e2,P.underlying u=some (.slice e2)) (hi:P.info? e=some i) (hiz:i.zero=some zv) (Ya:i.size=sz) {w:World} (VG:¬m+ny<=cap)
 (Uj:m+ny<2^62) (hby:(m+ny)*i.bytes<=2^47)
 (Oh:∀w2:World,w2.heap=w.heap->(Builtin.firstCells sz ny (.slice ady ny cy)).run P w2= .ok vs.toArray w2)
 (f9v:∀w2:World,w2.heap=w.heap->(Builtin.firstCells sz m (.slice base m cap)).run P w2= .ok us.toArray w2):
 ∃YR rest,(m+ny<=YR/\YR<2^63)/\rest.size=(YR-(m+ny))*zv.cells.size∧
  (Builtin.append_ ts ty #[.slice base m cap, .slice ady ny cy]).run P w= .ok (.slice (some ⟨w.heap.size,0,none⟩) (m+ny) YR) (w.drew.alloc (.cells (us.toArray++vs.toArray++rest) e)):=by
 obtain⟨e2,KA⟩:=KA
 have g4U:XY P e=some sz:=by simp[XY,hi,Ya]
 let YR:=(Question.appendCap (m+ny) cap e).cut (w.tape w.drawn (.appendCap (m+ny) cap e))
 have WT:m+ny<=YR:=by simp only[YR,Question.cut];omega
 have DR:YR<2^63:=by
  simp only[YR,Question.cut];have:=d2T (w.tape w.drawn (.appendCap (m+ny) cap e)) (show 2^63-(m+ny)>0 by omega);omega
 have Zm:¬(Builtin.nextslicecap (m+ny) cap*i.bytes>2^48):=by
  have:=d7T (m+ny) cap (by omega);have:=a0G i.bytes this;rw[Nat.mul_assoc]at this;omega
 have cL:∀w2:World,(typeInfo e).run P w2= .ok i w2:=fun w2=>by simp[typeInfo,hi]
 have f3Z:¬(((m+ny:Nat):Int)>IntKind.i64.max/\(false=true\/i.bytes=0)):=by
  have:IntKind.i64.max=2^63-1:=rfl;rw[this];omega
 refine⟨YR,Builtin.zeroCells zv.cells (YR-(m+ny)),⟨WT,DR⟩,by simp[Builtin.zeroCells],?_⟩;unfold Builtin.append_
 simp only[h0,c7y,a0F,a5J,Sem.run_bind,run_underlying w hu,run_underlying w KA,run_sizeOf w g4U,Result.andThen_ok,h1,Sem.run_pure,
  a1N,if_false,Builtin.lenOf,if_neg VG,cL,G3 hi hiz]
 rw[if_neg (by simpa using f3Z)];simp only[Sem.run_bind,cL,Result.andThen_ok];rw[if_neg Zm];simp only[Sem.run_bind,run_choose,Question.forced,a1N,if_false,Result.andThen_ok,run_askRoom,cL,d6O,if_true,World.drew_eq];rw[f9v w.drew rfl];simp only[Result.andThen_ok];rw[Oh w.drew rfl]
 simp only[Result.andThen_ok,G3 hi hiz,newRow,Sem.run_bind,run_newObj,Sem.run_pure];rfl
theorem d1U{x y:Operand}{ts:Array TypeId}{ty:TypeId}(hc:comp P ⟨dst, .call ⟨.builtin .append, #[x,y],ts⟩,ty,pos,af,g⟩=some r):
 ∃t u e e2 i zv,ts[0]? =some t/\ts[1]? =some u/\P.underlying t=some (.slice e)/\P.underlying u=some (.slice e2)/\P.info? e=some i/\i.zero=some zv/\zv.cells.size=i.size/\r= .app i.size i.bytes x y:=by
 simp only[comp]at hc
 have ht:ts=ts.toList.toArray:=by simp
 cases hl:ts.toList with
 |nil=>rw[hl]at hc;cases hc
 |cons t l=>
  cases l with
  |nil=>rw[hl]at hc;cases hc
  |cons u l=>
   cases l with
   |cons=>rw[hl]at hc;cases hc
   |nil=>
    rw[hl]at hc ht;simp only at hc;split at hc
    ·rename_i e e2 h1 h2
     cases hi:P.info? e with
     |none=>rw[hi]at hc;cases hc
     |some i=>
      rw[hi]at hc;simp only[a9J]at hc
      cases hz:i.zero with
      |none=>rw[hz]at hc;cases hc
      |some zv=>
       rw[hz]at hc;simp only[a9J]at hc;split at hc
       ·rename_i hs;exact⟨t,u,e,e2,i,zv,by rw[ht];rfl,by rw[ht];rfl,h1,h2,hi,hz,hs,by simpa using hc.symm⟩
       ·cases hc
    ·cases hc
theorem d2U(us vs:List Value)(rest:Array Value)(q:Nat):(us.toArray++vs.toArray++rest).getD q undef=if q<us.length then us.getD q undef else if q<us.length+vs.length then vs.getD (q-us.length) undef else rest.getD (q-(us.length+vs.length)) undef:=by
 simp only[a3E,a7V]
 by_cases h1:q<us.length
 ·rw[if_pos h1,c7k (by simp;omega),c7k (by simpa using h1)];simp
 ·rw[if_neg h1]
  by_cases h2:q<us.length+vs.length
  ·rw[if_pos h2,c7k (by simp;omega),c9M (by simp;omega)];simp
  ·rw[if_neg h2,c9M (by simp;omega)];simp
theorem d3U{xs ys:List (List IV)}{i j:Nat}{x:IV}(h:at2 (xs++ys) i j=some x):(i<xs.length/\at2 xs i j=some x)\/(xs.length<=i/\at2 ys (i-xs.length) j=some x):=by
 by_cases h1:i<xs.length
 ·left;refine⟨h1,?_⟩;simpa[at2,a9L h1]using h
 ·right;refine⟨by omega,?_⟩;simpa[at2,a7U (by omega:xs.length<=i)]using h
theorem mY{xs:List (List IV)}{sz:Nat}(hs:∀x∈xs,x.length=sz){i j:Nat}{x:IV}(h:at2 xs i j=some x):i<xs.length/\j<sz/\i*sz+j<xs.length*sz:=by
 obtain⟨r,h1,h2⟩:=IE h;have h3:=(a5y.1 h1).1
 have h4:j<sz:=by rw[<-hs r (a6y h1)];exact(a5y.1 h2).1
 have h5:(i+1)*sz<=xs.length*sz:=a0G sz (by omega)
 have h6:(i+1)*sz=i*sz+sz:=by rw[a4N];omega
 omega
theorem d5U{A':Nat->Prop}{ZF:Pl}{H':Hp}{w':World}{id b sz:Nat}{k:Nat×Nat}{xs ys:List (List IV)}{C:Array Value}{e:TypeId}(VY:ZF id=some (b,k))
 (hb:w'.heap[b]? =some (.cells C e (0,0))) (hk:k.1+k.2=C.size) (IU:∀x∈xs,x.length=sz) (hys:∀x∈ys,x.length=sz) (hl:(xs.length+ys.length)*sz<=k.2)
 (h1:∀i j x,at2 xs i j=some x->Yq A' w' x (C.getD (k.1+(i*sz+j)) undef))
 (h2:∀i j x,at2 ys i j=some x->Yq A' w' x (C.getD (k.1+(xs.length*sz+(i*sz+j))) undef)):WU A' ZF H' w' id (.list sz (xs++ys)):=by
 refine⟨fun x hx=>?_, .inr ⟨b,k,C,e,VY,hb,hk,by simpa using hl,fun i j x hx=>?_⟩⟩
 ·rcases List.mem_append.1 hx with hx|hx
  ·exact IU x hx
  ·exact hys x hx
 ·rcases d3U hx with⟨_,hx⟩|⟨hi,hx⟩
  ·exact h1 i j x hx
  ·have:=h2 _ _ _ hx;rw[d6R]at this;have h3:xs.length*sz<=i*sz:=a0G sz hi
   have e:xs.length*sz+(i*sz-xs.length*sz+j)=i*sz+j:=by omega
   rw[e]at this;exact this
theorem d6U{x y:Operand}{ts:Array TypeId}(hc:comp P ⟨dst, .call ⟨.builtin .append, #[x,y],ts⟩,ty,pos,af,g⟩=some r)(hd:d<1000)(h:Z7 E n ψ s a w)(hk:ZQ P d s K r):
 XX P E n ⟨dst, .call ⟨.builtin .append, #[x,y],ts⟩,ty,pos,af,g⟩ a w K:=by
 obtain⟨t,u,e,e2,ti,zv,h0,h1,hu,KA,hi,hz,hzs,rfl⟩:=d1U hc
 have Ya:XY P e=some ti.size:=by simp[XY,hi]
 generalize g5U:ti.size=sz at*;generalize g6U:ti.bytes=bytes at*;simp only[ZQ]at hk;have hx:=h.ev x;have hy:=h.ev y
 have grow:∀(m:Nat) (base:Option Addr) (cap:Nat) (us:List Value) (YH:Nat) (ys:List (List IV)),s.elems (s.ev y)=some (YH,ys)->(YH=sz\/ys=[])->a.eval x= .slice base m cap->
  ¬m+ys.length<=cap->m+ys.length<2^62->(m+ys.length)*bytes<=2^47->us.length=m*sz->(∀w2:World,w2.heap=w.heap->(Builtin.firstCells sz m (.slice base m cap)).run P w2= .ok us.toArray w2)->
  ∃(YR:Nat) (C:Array Value) (w':World),Ext w w'/\w'.heap[w.heap.size]? =some (.cells C e (0,0))/\(m+ys.length<=YR/\YR<2^63)/\C.size=YR*sz∧
   (execOp a.eval ⟨dst, .call ⟨.builtin .append, #[x,y],ts⟩,ty,pos,af,g⟩).run P w= .ok (.value (.slice (some ⟨w.heap.size,0,none⟩) (m+ys.length) YR)) w'∧
   (∀q,q<m*sz->C.getD q undef=us.getD q undef)/\(∀y∈ys,y.length=sz)/\∀i j x,at2 ys i j=some x->Yq (Im E ψ s.hp) w x (C.getD (m*sz+(i*sz+j)) undef):=by
  intro m base cap us YH ys he Tt QT VG Uj hby hul hur;obtain⟨vs,y1,y2,y3,y4,y5,ady,cy,Kb⟩:=b5A h hy he Tt
  obtain⟨YR,rest,⟨c1,c1m⟩,c2,hr⟩:=d0U (P:=P) (ty:=ty) (base:=base) (ady:=ady) (cy:=cy) (m:=m) (cap:=cap) (us:=us) (vs:=vs) h0 h1 hu ⟨e2,KA⟩ hi hz g5U (w:=w)
   VG Uj (by rw[g6U];exact hby) (fun w2 H4=>by rw[<-Kb];exact y2 w2 H4) hur
  have e1:(m+ys.length)*sz=m*sz+ys.length*sz:=a4N _ _ _;have Oo:(m+ys.length)*sz<=YR*sz:=a0G sz c1;have e3:(YR-(m+ys.length))*sz=YR*sz-(m+ys.length)*sz:=d6R _ _ _
  refine⟨YR,us.toArray++vs.toArray++rest,_,(Ext.drew w).trans (Ext.alloc _ (.cells (us.toArray++vs.toArray++rest) e)),?_,⟨c1,c1m⟩,?_,d8T (by rw[QT,Kb];exact hr),fun q hq=>?_,y3,fun i j x hx=>?_⟩
  ·exact mL w.drew _
  ·simp only[Array.size_append,List.size_toArray,hul,y1,c2,hzs,e3];omega
  ·rw[d2U,if_pos (by omega)]
  ·have hb:=mY y3 hx;rw[d2U,if_neg (by omega),if_pos (by omega),hul,show m*sz+(i*sz+j)-m*sz=i*sz+j from by omega];exact y4 i j x hx
 generalize hax:s.ev x=ax at hx hk;split at hk
 ·-- Wo a list of h5c own
  rename_i id Zz lo m YH ys he;split at hk
  ·rename_i o ho;split at hk
   ·rename_i z0 xs Xm;obtain⟨rfl,Tt,Vi,hlm,hby,Uj,hk⟩:=hk;obtain⟨o',xm,q1,Sb,q2,X4⟩:=HS hx;rw[ho]at q1;cases q1;have Du:=c2R Xm;rw[Sb]at Du;simp only[a3y,a2L]at Du;obtain⟨hd1,DC⟩:=Du;have hd1:=hd1.symm;subst hd1;subst DC;obtain⟨Qr,f4Z⟩:=c0R Xm (h.YC id _ ho)
    have FC:(xs.drop lo).length=m:=by simp;omega
    have qO:∀x∈xs.drop lo,x.length=z0:=fun x hx=>Qr x (b1J hx)
    have hlen:(xs.drop lo++ys).length=m+ys.length:=by simp;omega
    have MZ:s.elems (.sl id z0 lo m)=some (z0,xs.drop lo):=by
     simp only[St.elems,ho,Xm]
     congr 2
     rw[<-FC,List.take_length]
    obtain⟨us,x1,x2,x3,x4,x5,adx,cx,g7U⟩:=b5A h hx MZ (.inl rfl);rw[FC]at x1 x2 g7U
    have new:∀base cap,a.eval x= .slice base m cap->¬m+ys.length<=cap->XX P E n ⟨dst, .call ⟨.builtin .append, #[x,y],ts⟩,ty,pos,af,g⟩ a w K:=by
     intro base cap QT VG;obtain⟨YR,C,w',w1,w2,⟨w3,w3m⟩,w4,w5,w6,w7,w8⟩:=grow m base cap us YH ys he Tt QT VG Uj hby x1 (fun w2 H4=>by rw[<-QT];exact x2 w2 H4)
     have h2:=h.renew (o':=o.Xn z0 (xs.drop lo++ys)) Vi ho (c4R Xm) (p:=some (w.heap.size,(0,C.size))) (w':=w') (fun b hb _=>w1.block b hb) w1.size w1.same
      (fun b k e=>by cases e;exact .inl (a8F _))
      (c1R Xm<|d5U (b:=w.heap.size) (k:=(0,C.size)) (by simp[XE]) w2 (by simp) qO w7 (by rw[FC,w4];exact a0G z0 w3)
       (fun i j x hx=>by
        have hb:=mY qO hx;rw[FC]at hb;rw[b5D,w6 _ (by omega)]
        exact(x4 i j x hx).mono (fun b hb hi=>⟨hb,hi⟩) (fun b hb _=>w1.block b hb))
       (fun i j x hx=>by
        rw[b5D,FC]
        exact(w8 i j x hx).mono (fun b hb hi=>⟨hb,hi⟩) (fun b hb _=>w1.block b hb)))
     exact Sh w5 hk h2 (.sl id z0 0 (m+ys.length) w.heap.size (0,C.size) YR _ (o.Xn z0 (xs.drop lo++ys)) _ (by simp[WL]) (c3R Xm) (by rw[hlen];omega) (by simp[XE]) (fun _=>by simp) w3 (by rw[w4];simp) w3m)
    rcases X4 with⟨p1,rfl,rfl,QT⟩|⟨b,k,cap,ad,p1,p2,p3,p4,QT⟩
    ·-- nil
     by_cases hy0:ys=[]
     ·subst hy0
      have IU:xs=[]:=by
       rcases f4Z with⟨_,h2⟩|⟨b',k',c',e',h2,_⟩
       ·exact h2
       ·rw[p1]at h2;cases h2
      subst IU;obtain⟨vs,y1,y2,y3,y4,y5,ady,cy,Kb⟩:=b5A h hy he Tt
      have hr:=d9T (P:=P) (ty:=ty) (base:=none) (ady:=ady) (cy:=cy) (m:=0) (cap:=0) (ny:=0) (vs:=vs) h0 h1 hu ⟨e2,KA⟩ Ya (w:=w) (w':=w) (by omega)
       (by have:=y2 w rfl;rw[Kb]at this;exact this) (fun ad e=>by cases e) (fun _=>rfl)
      have h2:=h.renew (o':=o.Xn z0 []) Vi ho (c4R Xm) (p:=none) (w':=w) (fun _ _ _=>rfl) (a8F _) ⟨rfl,rfl,rfl,a8F _⟩ (fun _ _ e=>by cases e)
       (c1R Xm ⟨by simp, .inl ⟨by simp[XE],rfl⟩⟩)
      refine Sh (d8T (by rw[QT,Kb];exact hr)) (by simpa using hk) h2 ?_;exact .UR id z0 (o.Xn z0 []) 0 (by simp[WL]) (c3R Xm) (by simp[XE])
     ·exact new none 0 QT (by have:=a6I.2 hy0;omega)
    ·by_cases VG:m+ys.length<=cap
     ·-- where there is room
      obtain⟨vs,y1,y2,y3,y4,y5,ady,cy,Kb⟩:=b5A h hy he Tt
      rcases f4Z with⟨Sm,_⟩|⟨b',k',c,e',g1,g2,g3,g3',g4⟩
      ·rw[Sm]at p1;cases p1
      rw[g1]at p1;cases p1;have e1:(lo+cap)*z0=lo*z0+cap*z0:=a4N _ _ _;have e3:(m+ys.length)*z0<=cap*z0:=a0G z0 VG;have e4:(m+ys.length)*z0=m*z0+ys.length*z0:=a4N _ _ _
      have st:∃w',(∀ad',some ad=some ad'->(storeCells (ad'.add (m*z0)) vs).run P w= .ok () w')/\(∀j,j≠b->w'.heap[j]? =w.heap[j]?)/\w'.heap.size=w.heap.size∧
       (w'.os=w.os/\w'.tape=w.tape/\w'.output=w.output/\w.drawn<=w'.drawn)/\∃c',w'.heap[b]? =some (.cells c' e' (0,0))/\c'.size=c.size∧
       ∀q,q<c.size->c'.getD q undef=if k.1+lo*z0+m*z0<=q/\q<k.1+lo*z0+m*z0+vs.length then vs.getD (q-(k.1+lo*z0+m*z0)) undef else c.getD q undef:=by
       by_cases hv0:vs=[]
       ·subst hv0;refine⟨w,fun ad' _=>rfl,fun _ _=>rfl,rfl,⟨rfl,rfl,rfl,a8F _⟩,c,g2,rfl,fun q _=>?_⟩;rw[if_neg (by simp)]
       ·have QC:0<vs.length:=a6I.2 hv0
        have WT:0<cap:=by
         rcases b0q cap with IJ|IJ
         ·rw[IJ]at VG
          have:ys.length=0:=by omega
          rw[this]at y1;omega
         ·exact IJ
        have p2:=p2 WT;obtain⟨w',r1,r2,r3,r4,r5⟩:=a7D (P:=P) b (k.1+lo*z0+m*z0) vs 0 w c e' g2 y5 (by omega);refine⟨w',fun ad' hh=>?_,r2,r3,r4,UK c (k.1+lo*z0+m*z0) vs,r5,Hj _ _ _,fun q hq=>DF _ _ _ _ hq⟩;cases hh;rw[p2,Dz];exact r1
      obtain⟨w',r1,r2,r3,r4,c',r5,r6,r7⟩:=st
      have hr:=d9T (P:=P) (ty:=ty) (base:=some ad) (ady:=ady) (cy:=cy) (m:=m) (cap:=cap) (ny:=ys.length) (vs:=vs) h0 h1 hu ⟨e2,KA⟩ Ya (w:=w) (w':=w') VG
       (by rw[<-Kb];exact y2 w rfl) r1 (fun e=>by cases e)
      have hH:ZD ψ s.hp b:=⟨id,_,ho, .inl ⟨k,g1⟩⟩
      have nn:∀{x v},Yq (Im E ψ s.hp) w x v->Yq (fun b=>b<w.heap.size/\Im E ψ s.hp b) w' x v:=fun hh=>hh.mono (fun b hb hi=>⟨hb,hi⟩) (fun j _ hi=>r2 j (fun e=>hi.2 (e▸hH)))
      have h2:=h.renew (o':=o.Xn z0 (xs.drop lo++ys)) Vi ho (c4R Xm) (p:=some (b,(k.1+lo*z0,k.2-lo*z0))) (w':=w') (fun j hj ZV=>r2 j (fun e=>ZV k (by rw[e];exact g1))) (by omega) r4
       (fun b1 k1 e=>by cases e;exact .inr ⟨k,g1⟩)
       (c1R Xm<|d5U (b:=b) (k:=(k.1+lo*z0,k.2-lo*z0)) (by simp[XE]) r5 (by simp;omega) qO y3 (by rw[FC];simp;omega)
        (fun i j x hx=>by
         have hb:=mY qO hx;rw[FC]at hb;rw[r7 _ (by simp;omega),if_neg (by simp;omega)]
         have Vq:at2 xs (lo+i) j=some x:=by simpa[at2,a8M]using hx
         have:=g4 _ _ _ Vq;rw[a4N]at this;simp only;rw[show k.1+lo*z0+(i*z0+j)=k.1+(lo*z0+i*z0+j)from by omega]
         exact nn this)
        (fun i j x hx=>by
         have hb:=mY y3 hx;rw[FC];simp only;rw[r7 _ (by omega),if_pos (by omega),show k.1+lo*z0+(m*z0+(i*z0+j))-(k.1+lo*z0+m*z0)=i*z0+j from by omega]
         exact nn (y4 i j x hx)))
      refine Sh (d8T (by rw[QT,Kb];exact hr)) hk h2 ?_;refine .sl id z0 0 (m+ys.length) b (k.1+lo*z0,k.2-lo*z0) cap ad (o.Xn z0 (xs.drop lo++ys)) _ (by simp[WL]) (c3R Xm) (by rw[hlen];omega) (by simp[XE]) (fun hc=>by rw[p2 hc];simp) VG (by simp;omega) (by rw[QT]at hx;exact b4P hx)
     ·exact new (some ad) cap QT VG
   ·exact hk.elim
  ·exact hk.elim
 ·-- Wo nil
  rename_i Zz YH ys he;obtain⟨Tt,hby,Uj,hk⟩:=hk;have QT:=CJ hx;have nU:=h.drop (id:=d) hd
  by_cases hy0:ys=[]
  ·subst hy0;obtain⟨vs,y1,y2,y3,y4,y5,ady,cy,Kb⟩:=b5A h hy he Tt
   have hr:=d9T (P:=P) (ty:=ty) (base:=none) (ady:=ady) (cy:=cy) (m:=0) (cap:=0) (ny:=0) (vs:=vs) h0 h1 hu ⟨e2,KA⟩ Ya (w:=w) (w':=w) (by omega)
    (by have:=y2 w rfl;rw[Kb]at this;exact this) (fun ad e=>by cases e) (fun _=>rfl)
   have h2:=nU.new (o:= .list sz []) (p:=none) hd (LI s d) (Ext.refl w) (fun _ _ e=>by cases e) ⟨(fun x hx=>by cases hx), .inl ⟨by simp[XE],rfl⟩⟩;refine Sh (d8T (by rw[QT,Kb];exact hr)) hk h2 ?_;exact .UR d sz (.list sz []) 0 (by simp[WL]) rfl (by simp[XE])
  ·obtain⟨YR,C,w',w1,w2,⟨w3,w3m⟩,w4,w5,w6,w7,w8⟩:=grow 0 none 0 [] YH ys he Tt QT (by have:=a6I.2 hy0;omega) (by omega) (by simpa using hby) (by simp) (fun _ _=>rfl)
   have De:∀b,b<w.heap.size->Im E ψ s.hp b->Im E ψ (s.drop d).hp b:=by
    rintro b _ ⟨i1,i2⟩;refine⟨i1,?_⟩;rintro⟨k,o,ho,hq⟩;unfold St.drop at ho;split at ho
    ·exact i2 ⟨k,o,ho,hq⟩
    ·simp only[G0]at ho;split at ho
     ·cases ho
     ·rw[GQ]at ho
      cases XI:look s.hp k with
      |none=>rw[XI]at ho;cases ho
      |some o'=>exact i2 ⟨k,o',XI,hq⟩
   have h2:=nU.new (o:= .list sz ys) (p:=some (w.heap.size,(0,C.size))) hd (LI s d) w1 (fun b k e=>by cases e;exact a8F _)
    (d5U (xs:=[]) (b:=w.heap.size) (k:=(0,C.size)) (by simp[XE]) w2 (by simp) (by simp) w7 (by rw[w4];simpa using a0G sz w3) (by simp[at2])
     (fun i j x hx=>by
      have:=w8 i j x hx;simp only[Nat.zero_mul,b5D,c2i]at this⊢
      exact this.mono (fun b hb hi=>⟨hb,De b hb hi⟩) (fun b hb _=>w1.block b hb)))
   rw[b5D]at w5 w3;exact Sh w5 hk h2 (.sl d sz 0 ys.length w.heap.size (0,C.size) YR _ (.list sz ys) ys.length (by simp[WL]) rfl (by omega) (by simp[XE]) (fun _=>by simp) w3 (by rw[w4];simp) w3m)
 ·exact hk.elim
end
section
variable{P:Program}{E:En}{n:Nat}{ψ:Pl}{s:St}{a:Act}{w:World}
variable{dst:Option Nat}{ty:TypeId}{pos:String}{af:Array Edge}{g:Option (Nat×Bool)}{r:V7}{d:Nat}{K:St->AV->Prop}
theorem a1x{t:TypeId}{x y:Operand}{q:Nat}(hq:XY P t=some q){b o:Nat}(hx:a.eval x= .pointer (some ⟨b,o,none⟩))(hl:(a.eval y).cells.size=q){w':World}
 (hs:(storeCells ⟨b,o,none⟩ (a.eval y).cells.toList).run P w= .ok () w'):
 (execOp a.eval ⟨dst, .store t x y,ty,pos,af,g⟩).run P w= .ok .skip w':=by
 simp only[execOp,Instr.storeAt,hx,sure,storeVar,Sem.run_bind,Sem.run_pure',Result.andThen_ok,run_sizeOf w hq,hl,ne_eq,not_true,if_false,hs,Sem.run_pure]
theorem a2x{t:TypeId}{x y:Operand}{q:Nat}(hq:XY P t=some q)(h:Z7 E n ψ s a w)(hk:ZQ P d s K (.st x y q))
 (YQ:∀id sz i off z xs hole,s.ev x= .ep id sz i off->look (s.YX [s.ev y]).hp id≠some (.ZI z xs hole)):
 XX P E n ⟨dst, .store t x y,ty,pos,af,g⟩ a w K:=by
 simp only[ZQ]at hk;have hx:=h.ev x;have hy:=h.ev y;generalize hax:s.ev x=ax at hx hk;split at hk
 ·rename_i id off;split at hk
  ·rename_i cs cy ho Ox;obtain⟨hl,XZ,PK,hk⟩:=hk;obtain⟨b,k,o,XI,hb,QT⟩:=CS hx;obtain⟨b',c,e,h1,h2,h3,h4⟩:=h.YC id _ ho;rw[h1]at hb;cases hb;obtain⟨g1,g2⟩:=nc hy Ox
   have hlen:(a.eval y).cells.toList.length=cy.length:=by simpa using g1
   have g2':∀i x,cy[i]? =some x->ZL (Im E ψ s.hp) ψ s.hp w x ((a.eval y).cells.toList.getD i undef):=fun i x hx=>by rw[Sn];exact g2 i x hx
   obtain⟨w',r1,r2,r3,r4,r5⟩:=a7D (P:=P) b off (a.eval y).cells.toList 0 w c e h2 (a8D hlen g2' PK) (by omega);have XA:=a1x (dst:=dst) (ty:=ty) (pos:=pos) (af:=af) (g:=g) hq QT (by omega) r1;have hsr:(YB cs off cy).length=cs.length:=a0D _ _ _ (by omega)
   have LL:=h.MV (o':= .box (YB cs off cy)) ho (Ob.le_none rfl) rfl (by simp[Ob.multi]) h1 r2 r3 r4 (fun tr _=>by
    refine⟨b,UK c off (a.eval y).cells.toList,e,by rw[Hj];exact h1,r5,by rw[Hj,hsr];exact h3,fun i z hz=>tr _ _ (a2D h3 h4 hlen g2' (by omega) i z hz)⟩)
   exact oY XA hk LL
  ·exact hk.elim
 ·rename_i id sz0 i off;have hf:=h.YX [s.ev y];have hy':=hf.ev y;have Vq:=hf.ev x;split at hk
  ·rename_i sz xs cy ho Ox;split at hk
   ·rename_i r hr;obtain⟨hex,hl,XZ,hk⟩:=hk;rw[hex]at Vq;obtain⟨b,k,o',m',XI,XF,hi,hb,QT⟩:=b6O Vq;rw[ho]at XI;cases XI;simp only[Ob.dim,a3y,a2L]at XF;obtain⟨hz1,na⟩:=XF;subst na
    cases hcs:((s.YX [s.ev y]).ev y).cellsOf with
    |none=>rw[hcs]at Ox;cases Ox
    |some cs=>
     rw[hcs]at Ox;simp only[a9J]at Ox;obtain⟨g1,g2⟩:=nc hy' hcs
     have hlen:(a.eval y).cells.toList.length=cs.length:=by simpa using g1
     obtain⟨v1,v2⟩:=a9D hf hlen (fun i x hx=>by rw[Sn];exact g2 i x hx) Ox;obtain⟨Qr,UJ⟩:=hf.YC id _ ho
     rcases UJ with⟨Sm,_⟩|⟨b',k',c,e,h1,h2,h3,SX,h4⟩
     ·rw[Sm]at hb;cases hb
     rw[h1]at hb;cases hb;have mZ:=Qr r (a6y hr);have hm:(i+1)*sz<=xs.length*sz:=a0G sz (by omega)
     have e2:(i+1)*sz=i*sz+sz:=by rw[a4N];omega
     have f2M:∀v∈(a.eval y).cells.toList,v.oneCell'=true:=by
      intro v hv;obtain⟨j,hj,rfl⟩:=d7f hv;have hcj:cy[j]? =some cy[j]:=a4G (by omega);have:=v2 j _ hcj;rw[show(a.eval y).cells.toList.getD j undef=(a.eval y).cells.toList[j]from by rw[a7V,a4G hj];rfl]at this;exact this.one
     obtain⟨w',r1,r2,r3,r4,r5⟩:=a7D (P:=P) b (k.1+(i*sz+off)) (a.eval y).cells.toList 0 w c e h2 f2M (by omega);have XA:=a1x (dst:=dst) (ty:=ty) (pos:=pos) (af:=af) (g:=g) hq QT (by omega) r1;have hsr:(YB r off cy).length=r.length:=a0D _ _ _ (by omega)
     have LL:=hf.MV (o':= .list sz (xs.set i (YB r off cy))) ho (Ob.RM rfl rfl (by simp)) rfl (by simp[Ob.multi]) h1 r2 r3 r4 (fun _ tr=>by
      refine⟨fun z hz=>?_, .inr ⟨b,k,UK c (k.1+(i*sz+off)) (a.eval y).cells.toList,e,h1,r5,by rw[Hj];exact h3,by simpa using SX,fun i' j z hz=>?_⟩⟩
      ·rcases c8P hz with hz|rfl
       ·exact Qr z hz
       ·omega
      ·have XH:i'<xs.length/\j<sz/\i'*sz+j<xs.length*sz:=by
        have:=mY (xs:=xs.set i (YB r off cy)) (sz:=sz) (fun y hy=>by
         rcases c8P hy with hy|rfl
         ·exact Qr y hy
         ·omega) hz
        simpa using this
       rw[DF _ _ _ _ (by omega)]
       by_cases hii:i'=i
       ·subst hii
        have Hh:(YB r off cy)[j]? =some z:=by simpa[at2,c9b,hi]using hz
        rw[a1D _ _ _ (by omega)]at Hh
        by_cases Hg:off<=j/\j<off+cy.length
        ·rw[if_pos Hg]at Hh;rw[if_pos (by omega),show k.1+(i'*sz+j)-(k.1+(i'*sz+off))=j-off from by omega];exact tr _ _ (v2 _ _ Hh)
        ·rw[if_neg Hg]at Hh;rw[if_neg (by omega)];exact tr _ _ (h4 _ _ _ (mX hr Hh))
       ·have Hh:at2 xs i' j=some z:=by simpa[at2,c9b,Ne.symm hii]using hz
        have ZV:¬(k.1+(i*sz+off)<=k.1+(i'*sz+j)/\k.1+(i'*sz+j)<k.1+(i*sz+off)+(a.eval y).cells.toList.length):=by
         rcases Nat.lt_or_gt_of_ne hii with Z2|Z2
         ·have h7:(i'+1)*sz<=i*sz:=a0G sz (by omega)
          have h8:(i'+1)*sz=i'*sz+sz:=by rw[a4N];omega
          omega
         ·have h7:(i+1)*sz<=i'*sz:=a0G sz (by omega);omega
        rw[if_neg ZV]
        exact tr _ _ (h4 _ _ _ Hh))
     exact oY XA hk LL
   ·exact hk.elim
  ·rename_i ho;exact absurd ho (YQ _ _ _ _ _ _ _ hax)
  ·exact hk.elim
 ·exact hk.elim
/-! ### g5a are held g6a one another,cell by cell. -/
theorem a3x:∀(ks:List Kd) (cs ds:List AV) (b:Bool),TY ks cs ds=some b->cs.length=ks.length/\ds.length=ks.length:=by
 intro ks
 induction ks with
 |nil=>intro cs ds b h;unfold TY at h;split at h<;>simp_all
 |cons k ks ih=>
  intro cs ds b h;unfold TY at h;split at h
  ·simp_all
  ·rename_i t ks' u r v q hk;cases hk
   cases hc:Hf k u v with
   |none=>rw[hc]at h;cases h
   |some z=>
    rw[hc]at h;simp only[a9J]at h
    cases hr:TY ks r q with
    |none=>rw[hr]at h;cases h
    |some z2=>obtain⟨g1,g2⟩:=ih _ _ _ hr;simp[g1,g2]
  ·cases h
theorem a4x:∀(k1 k2:List Kd) (cs ds:List AV) (b:Bool),TY (k1++k2) cs ds=some b->
 ∃b1 b2,TY k1 (cs.take k1.length) (ds.take k1.length)=some b1/\TY k2 (cs.drop k1.length) (ds.drop k1.length)=some b2/\b=(b1&&b2):=by
 intro k1
 induction k1 with
 |nil=>intro k2 cs ds b h;exact⟨true,b,by simp[TY],by simpa using h,by simp⟩
 |cons k k1 ih=>
  intro k2 cs ds b h;rw[b4O]at h;unfold TY at h;split at h
  ·rename_i hh;cases hh
  ·rename_i t ks' u r v q hk;cases hk
   cases hc:Hf k u v with
   |none=>rw[hc]at h;cases h
   |some z=>
    rw[hc]at h;simp only[a9J]at h
    cases hr:TY (k1++k2) r q with
    |none=>rw[hr]at h;cases h
    |some z2=>
     rw[hr]at h;simp only[a8H,a3y]at h;obtain⟨b1,b2,g1,g2,rfl⟩:=ih _ _ _ _ hr;refine⟨z&&b1,b2,?_,by simpa using g2,by rw[<-h,Bool.and_assoc]⟩;simp[TY,hc,g1]
  ·cases h
def Rel(us:Array Value)(cs:List AV):Prop:=us.size=cs.length/\∀i x,cs[i]? =some (.iv (.v x))->us.getD i undef=x
theorem Rel.part{us:Array Value}{cs:List AV}(h:Rel us cs){o q:Nat}(hq:o+q<=cs.length):Rel (us.extract o (o+q)) ((cs.drop o).take q):=by
 obtain⟨h1,h2⟩:=h;refine⟨by simp;omega,fun i x hx=>?_⟩;rw[a8R]at hx;split at hx
 ·rename_i hi;rw[a8M]at hx;have:=h2 _ _ hx;rw[<-this];simp only[a3E,Array.getElem?_extract];rw[if_pos (by omega)]
 ·cases hx
theorem a5x{d:Nat}{t:TypeId}{k:Kd}(hu:P.underlying t=some (match k with| .b=> .bool| .i j=> .int j| .s=> .string)){u v:Value}{b:Bool}(h:Hf k u v=some b)
 (w:World):(Op.equalIn (d+1) t u v).run P w= .ok b w:=by
 cases k with
 |b=>
  cases u<;>cases v<;>simp only[Hf]at h<;>cases h
  exact b0Q d hu _ _ w
 |i j=>
  cases u<;>cases v<;>simp only[Hf]at h<;>(first|(cases h;done)|skip)
  split at h
  ·cases h;subst_vars;simp[Op.equalIn,run_underlying w hu]
  ·cases h
 |s=>
  cases u<;>cases v<;>simp only[Hf]at h<;>cases h
  simp[Op.equalIn,run_underlying w hu]
theorem a6x{us vs:Array Value}{cs ds:List AV}(h1:Rel us cs)(h2:Rel vs ds){o:Nat}(ho:o+1<=cs.length)(CQ:o+1<=ds.length){k:Kd}{b:Bool}
 (h:TY [k] ((cs.drop o).take 1) ((ds.drop o).take 1)=some b):Hf k (us.getD o undef) (vs.getD o undef)=some b:=by
 have e1:cs[o]? =some cs[o]:=a4G (by omega);have e2:ds[o]? =some ds[o]:=a4G (by omega)
 have d1:(cs.drop o).take 1=[cs[o]]:=by rw[c5u (by omega),d2h,b0P]
 have d2:(ds.drop o).take 1=[ds[o]]:=by rw[c5u (by omega),d2h,b0P]
 rw[d1,d2]at h;unfold TY at h;split at h
 ·rename_i hh _ _;cases hh
 ·rename_i t ks u r v q hk hc hd;simp only[a4U]at hk hc hd;obtain⟨rfl,rfl⟩:=hk;obtain⟨hc,rfl⟩:=hc;obtain⟨hd,rfl⟩:=hd;rw[hc]at e1;rw[hd]at e2;rw[h1.2 _ _ e1,h2.2 _ _ e2]
  cases hz:Hf k u v with
  |none=>rw[hz]at h;cases h
  |some z=>rw[hz]at h;simp[TY]at h;rw[h]
 ·cases h
theorem a7x:∀(
 d:Nat) (t:TypeId) (ks:List Kd),RL P d t=some ks->∀(D:Nat),d<=D->∀(us vs:Array Value) (cs ds:List AV) (o:Nat) (b:Bool),Rel us cs->Rel vs ds->
 o+ks.length<=cs.length->o+ks.length<=ds.length->TY ks ((cs.drop o).take ks.length) ((ds.drop o).take ks.length)=some b->
 (XT P t=true->XY P t=some ks.length->(Op.equalIn D t (.agg (us.extract o (o+ks.length))) (.agg (vs.extract o (o+ks.length)))).run P w= .ok b w)∧
 (XY P t=some ks.length->∃X Y,(part t us o).run P w= .ok X w/\(part t vs o).run P w= .ok Y w/\(Op.equalIn D t X Y).run P w= .ok b w):=by
 intro d
 induction d with
 |zero=>intro t ks h;cases h
 |succ d ih=>
  intro t ks WQ D hD us vs cs ds o b r1 r2 l1 l2 he;obtain⟨D,rfl⟩:∃D',D=D'+1:=⟨D-1,by omega⟩;unfold RL at WQ
  have leaf:∀(k:Kd),P.underlying t=some (match k with| .b=> .bool| .i j=> .int j| .s=> .string)->ks=[k]->
   (XT P t=true->XY P t=some ks.length->(Op.equalIn (D+1) t (.agg (us.extract o (o+ks.length))) (.agg (vs.extract o (o+ks.length)))).run P w= .ok b w)∧
   (XY P t=some ks.length->∃X Y,(part t us o).run P w= .ok X w/\(part t vs o).run P w= .ok Y w/\(Op.equalIn (D+1) t X Y).run P w= .ok b w):=by
   rintro k hu rfl
   have hg:XT P t=false:=by unfold XT;rw[hu];cases k<;>rfl
   simp only[List.length_singleton]at l1 l2 he⊢;refine⟨(by rw[hg];intro h;cases h),fun _=>⟨us.getD o undef,vs.getD o undef,?_,?_,?_⟩⟩
   ·exact c9r hu hg (by have:=r1.1;omega) w
   ·exact c9r hu hg (by have:=r2.1;omega) w
   ·exact a5x hu (a6x r1 r2 l1 l2 he) w
  split at WQ
  ·rename_i hu;exact leaf .b hu (by simpa using WQ.symm)
  ·rename_i k hu;exact leaf (.i k) hu (by simpa using WQ.symm)
  ·rename_i hu;exact leaf .s hu (by simpa using WQ.symm)
  ·rename_i fs hu;split at WQ
   ·cases WQ
   ·rename_i YD
    have YD:P.stoodInHeld t=false:=by simpa using YD
    have hg:XT P t=true:=by unfold XT;rw[hu]
    have fields:∀(l:List Field) (k0 ks:List Kd) (us vs:Array Value) (cs ds:List AV) (b:Bool),Rel us cs->Rel vs ds->cs.length=ks.length->ds.length=ks.length->
     l.foldlM (fun ks f=>if f.name≠ "_"/\f.offset=ks.length then(RL P d f.type).bind fun q=>if XY P f.type=some q.length then some (ks++q)else none else none) k0=some ks->
     ∀k2,ks=k0++k2->TY k2 (cs.drop k0.length) (ds.drop k0.length)=some b->(Op.eqFields D us vs l).run P w= .ok b w:=by
     intro l
     induction l with
     |nil=>
      intro k0 ks us vs cs ds b _ _ _ _ hf k2 hk he;simp only[List.foldlM_nil,Option.pure_def,a3y]at hf;subst hf
      have:k2=[]:=by simpa using hk.symm
      subst this;have:=a3x _ _ _ _ he;have h1:cs.drop k0.length=[]:=a2S (by simpa using this.1);have h2:ds.drop k0.length=[]:=a2S (by simpa using this.2);rw[h1,h2]at he;simp[TY]at he;subst he;rfl
     |cons f l ihl=>
      intro k0 ks us vs cs ds b r1 r2 Sl MU hf k2 hk he;rw[c7H]at hf
      by_cases hc:f.name≠ "_"/\f.offset=k0.length
      ·rw[if_pos hc]at hf
       cases hp:RL P d f.type with
       |none=>simp[hp]at hf
       |some q=>
        simp only[hp,a9J]at hf
        by_cases hq:XY P f.type=some q.length
        ·rw[if_pos hq]at hf;simp only[a5V,a9J]at hf
         have Om:∃k3,ks=(k0++q)++k3:=by
          have aux:∀(l:List Field) (k0 ks:List Kd),l.foldlM (fun ks f=>if f.name≠ "_"/\f.offset=ks.length then(RL P d f.type).bind fun q=>if XY P f.type=some q.length then some (ks++q)else none else none) k0=some ks->∃k3,ks=k0++k3:=by
           intro l
           induction l with
           |nil=>intro k0 ks h;simp at h;subst h;exact⟨[],by simp⟩
           |cons f l ih=>
            intro k0 ks h;rw[c7H]at h;split at h
            ·cases hp:RL P d f.type with
             |none=>simp[hp]at h
             |some q=>
              simp only[hp,a9J]at h;split at h
              ·simp only[a5V,a9J]at h;obtain⟨k3,e⟩:=ih _ _ h;exact⟨q++k3,by rw[e,b9Z]⟩
              ·simp at h
            ·simp at h
          exact aux _ _ _ hf
         obtain⟨k3,DE⟩:=Om
         have Um:k2=q++k3:=by rw[hk,b9Z]at DE;exact List.append_cancel_left DE
         subst Um;obtain⟨b1,b2,g1,g2,rfl⟩:=a4x q k3 _ _ _ he
         have hlen:k0.length+q.length<=ks.length:=by rw[hk];simp
         obtain⟨X,Y,p1,p2,p3⟩:=(ih f.type q hp D (by omega) us vs cs ds k0.length b1 r1 r2 (by omega) (by omega) g1).2 hq;have Ol:=ihl (k0++q) ks us vs cs ds b2 r1 r2 Sl MU hf k3 DE (by rw[List.length_append, <-d2P, <-d2P];exact g2);simp only[Op.eqFields,if_pos hc.1,Sem.run_bind,hc.2,p1,p2,p3,Result.andThen_ok];cases b1
         ·simp
         ·simp[Ol]
        ·rw[if_neg hq]at hf;simp at hf
      ·rw[if_neg hc]at hf;simp at hf
    have whole:XY P t=some ks.length->(Op.equalIn (D+1) t (.agg (us.extract o (o+ks.length))) (.agg (vs.extract o (o+ks.length)))).run P w= .ok b w:=by
     intro _
     have ht:P.underlying t=some (.struct (P.fieldsOf t)):=by simp[Program.fieldsOf,hu]
     rw[run_equalIn_struct w D t _ _ ht YD]
     have oX:P.fieldsOf t=fs:=by simp[Program.fieldsOf,hu]
     rw[oX];exact fields fs.toList [] ks _ _ _ _ b (r1.part l1) (r2.part l2) (by simp;omega) (by simp;omega) WQ ks (by simp) (by simpa using he)
    refine⟨fun _=>whole,fun hi=>⟨_,_,c0s hu hg hi us o w,c0s hu hg hi vs o w,whole hi⟩⟩
  ·cases WQ
theorem a8x{A:Nat->Prop}{H:Hp}{us:Array Value}{cs:List AV}(hl:us.size=cs.length)(h:∀i c,cs[i]? =some c->ZL A ψ H w c (us.getD i undef)):Rel us cs:=
 ⟨hl,fun i x hx=>Vp (h i _ hx)⟩
theorem a9x{op:BinOp}{xt yt:TypeId}{x y:Operand}{neg:Bool}{fs:Array Field}{ks:List Kd}(hu:P.underlying xt=some (.struct fs))(hg:P.eqGuardType P.depth xt=false)
 (WQ:RL P 20 xt=some ks) (Na:op=if neg then .neq else .eql) (h:Z7 E n ψ s a w) (hk:ZQ P d s K (.eqs neg ks x y)) (hi:XY P xt=some ks.length):
 XR P E n ⟨dst, .binOp op xt x y yt,ty,pos,af,g⟩ a w K:=by
 simp only[ZQ]at hk;have hx:=h.ev x;have hy:=h.ev y;generalize s.ev x=ax at hx hk;generalize s.ev y=ay at hy hk;split at hk
 ·rename_i cs ds;split at hk
  ·rename_i b hb;obtain⟨us,u1,u2,eu⟩:=mW hx;obtain⟨vs,v1,v2,ev⟩:=mW hy;obtain⟨l1,l2⟩:=a3x _ _ _ _ hb
   have hag:XT P xt=true:=by unfold XT;rw[hu]
   refine VZ h (v:= .bool (if neg then !b else b)) (fun w=>?_) hk (UB rfl)
   have key:=(a7x (P:=P) (w:=w) 20 xt ks WQ 10000 (by omega) us vs cs ds 0 b (a8x u1 u2) (a8x v1 v2) (by omega) (by omega) (by
    rw[c4Q,c4Q,a0z (by omega),a0z (by omega)];exact hb)).1 hag hi
   have e1:us.extract 0 (0+ks.length)=us:=by rw[b5D, <-l1, <-u1];simp
   have e2:vs.extract 0 (0+ks.length)=vs:=by rw[b5D, <-l2, <-v1];simp
   rw[e1,e2]at key;have QK:=run_eqGuard_agg (P:=P) w op xt x y us vs hg;subst Na;cases neg
   ·simp only[a1N,if_false]at QK⊢;simp only[execOp,eu,ev,Sem.run_bind,QK,Result.andThen_ok,run_eql_struct,key,Sem.run_pure]
   ·simp only[if_true]at QK⊢;simp only[execOp,eu,ev,Sem.run_bind,QK,Result.andThen_ok,run_neq_struct,key,Sem.run_pure]
  ·exact hk.elim
 ·exact hk.elim
end
section
variable{P:Program}{E:En}{n:Nat}{ψ:Pl}{s:St}{a:Act}{w:World}
variable{dst:Option Nat}{ty:TypeId}{pos:String}{af:Array Edge}{g:Option (Nat×Bool)}{r:V7}{d:Nat}{K:St->AV->Prop}
def Hl(E:En)(fr:Bool)(ψ:Pl)(s:St)(H:Hp)(w:World)(b:Nat):Prop:=b<w.heap.size/\(if fr then ¬ZD ψ H b else Im E ψ s.hp b)
theorem d3W{fr:Bool}{H:Hp}(Y9:∀id o,look H id=some o->look s.hp id=some o){b:Nat}(hb:b<w.heap.size)(h:Im E ψ s.hp b):Hl E fr ψ s H w b:=by
 refine⟨hb,?_⟩;cases fr
 ·exact h
 ·rintro⟨id,o,h1,h2⟩;exact h.2 ⟨id,o,Y9 id o h1,h2⟩
theorem d4W{α β:Type}{f:α->Option β}:∀{cs:List α} {l:List β},Zg f cs=some l->l.length=cs.length/\∀(i:Nat) (y:β),l[i]? =some y->∃x:α,cs[i]? =some x/\f x=some y
 | [],l,h=>by simp only[Zg,a3y]at h;subst h;simp
 |x::r,l,h=>by
  simp only[Zg]at h;split at h
  ·rename_i y hy
   cases hr:Zg f r with
   |none=>rw[hr]at h;cases h
   |some l'=>
    rw[hr]at h;simp only[a8H,a3y]at h;subst h;obtain⟨g1,g2⟩:=d4W hr;refine⟨by simp[g1],fun i z hz=>?_⟩
    cases i with
    |zero=>simp only[a0F,a3y]at hz;subst hz;exact⟨x,rfl,hy⟩
    |succ i=>simpa using g2 i z (by simpa using hz)
  ·cases h
theorem d5W(
 h:Z7 E n ψ s a w) {H:Hp} (Y9:∀id o,look H id=some o->look s.hp id=some o):∀(d:Nat) (x:AV) (v:Value) (y:IV),ZL (Im E ψ s.hp) ψ s.hp w x v->
 s.Wk (H.map (·.1)) d x=some y->Yq (Hl E true ψ s H w) w y v:=by
 intro d
 induction d with
 |zero=>
  intro x v y hx hy;exact base h Y9 x v y hx hy (by intro id off e;subst e;simp[St.Wk]at hy)
 |succ d ih=>
  intro x v y hx hy
  by_cases hp:∃id off,x= .ptr id off
  ·obtain⟨id,off,rfl⟩:=hp;simp only[St.Wk]at hy;split at hy
   ·cases hy
   ·rename_i Oo;split at hy
    ·rename_i cs ho
     cases hl:Zg (St.Wk s (H.map (·.1)) d) cs with
     |none=>rw[hl]at hy;cases hy
     |some l=>
      rw[hl]at hy;simp only[a8H,a3y]at hy;subst hy;obtain⟨b,k,o',g1,g2,rfl⟩:=CS hx;rw[ho]at g1;cases g1;obtain⟨b',c,e,h1,h2,h3,h4⟩:=h.YC id _ ho;rw[h1]at g2;cases g2;obtain⟨q1,q2⟩:=d4W hl
      refine .pt _ b off (fun i=>c.getD (off+i) undef) (fun i z hz=>?_) (fun i z hz=>?_)<;>rw[a8M]at hz<;>obtain⟨z0,hz0,Qs⟩:=q2 _ z hz
      ·refine⟨Tw h Y9 ho (by simpa using Oo) (.inl ⟨_,h1⟩),G2 h2 ?_⟩;rw[h3];exact(a5y.1 hz0).1
      ·exact ih z0 _ z (h4 _ z0 hz0) Qs
    ·cases hy
  ·exact base h Y9 x v y hx hy (fun id off e=>hp ⟨id,off,e⟩)
where
 Tw {E:En} {n:Nat} {ψ:Pl} {s:St} {a:Act} {w:World} (h:Z7 E n ψ s a w) {H:Hp} (Y9:∀id o,look H id=some o->look s.hp id=some o) {id:Nat} {o:Ob} (ho:look s.hp id=some o)
  (Oo:(H.map (·.1)).contains id=false) {b:Nat} (hb:ZZ ψ id b):Hl E true ψ s H w b:=by
  refine⟨h.lt ho hb,?_⟩;rintro⟨id2,o2,h1,h2⟩;have:=h.inj id id2 _ o2 b ho (Y9 id2 o2 h1) hb h2;subst this;have:=CD h1;rw[Oo]at this;cases this
 base {E:En} {n:Nat} {ψ:Pl} {s:St} {a:Act} {w:World} (h:Z7 E n ψ s a w) {H:Hp} (Y9:∀id o,look H id=some o->look s.hp id=some o) {d:Nat} (x:AV) (v:Value) (y:IV)
  (hx:ZL (Im E ψ s.hp) ψ s.hp w x v) (hy:s.Wk (H.map (·.1)) d x=some y) (hp:∀id off,x≠ .ptr id off):Yq (Hl E true ψ s H w) w y v:=by
  have lm:∀b,b<w.heap.size->Im E ψ s.hp b->Hl E true ψ s H w b:=fun b hb hm=>d3W Y9 hb hm
  cases x with
  |iv x=>cases d<;>(simp only[St.Wk,a3y]at hy;subst hy;cases hx with|iv _ _ hx=>exact hx.mono lm (fun _ _ _=>rfl))
  |nil sz=>cases d<;>(simp only[St.Wk,a3y]at hy;subst hy;rw[CJ hx];exact .V5 _)
  |ptr id off=>exact absurd rfl (hp id off)
  |sl id sz lo len=>
   have hy2:(if(H.map (·.1)).contains id then none else match look s.hp id with
    |some (.list _ xs)=>some (.Z6 sz ((xs.drop lo).take len))
    |some (.ZI Zz xs none)=>some (.Z6 1 (((xs.map fun x=>[IV.Z6 Zz x]).drop lo).take len))
    | _=>none)=some y:=by cases d<;>exact hy
   clear hy
   rename _=>hy
   split at hy
   ·cases hy
   ·rename_i Oo
    have Oo:(H.map (·.1)).contains id=false:=by simpa using Oo
    obtain⟨o,m,q1,Sb,q2,X4⟩:=HS hx;rw[q1]at hy;have UJ:=h.YC id _ q1;split at hy
    ·rename_i xs heq;cases heq;simp only[Ob.dim,a3y,a2L]at Sb;obtain⟨rfl,rfl⟩:=Sb;cases hy
     rcases X4 with⟨p1,rfl,rfl,hv⟩|⟨b,k,cap,ad,p1,p2,p3,p4,hv⟩
     ·rw[hv,b0P];exact .V5 _
     ·rw[hv];exact d4A UJ lm (fun b' k' XH=>Tw h Y9 q1 Oo (.inl ⟨_,XH⟩)) p1 p2 p3 q2
    ·rename_i Zz xs heq;cases heq;simp only[Ob.dim,a3y,a2L]at Sb;obtain⟨rfl,rfl⟩:=Sb;cases hy
     rcases X4 with⟨p1,rfl,rfl,hv⟩|⟨b,k,cap,ad,p1,p2,p3,p4,hv⟩
     ·rw[hv,b0P];exact .V5 _
     ·rw[hv];exact d4B UJ lm (fun b' XH=>Tw h Y9 q1 Oo XH) p1 p2 p3 q2
    ·cases hy
  |mpr id=>
   have hy2:(if(H.map (·.1)).contains id then none else match look s.hp id with
    |some (.map sk g)=>some (.mp sk g)
    |some (.YA sk sz g none)=>some (.mp sk fun k=>(g k).map fun xs=>[IV.Z6 sz xs])
    | _=>none)=some y:=by cases d<;>exact hy
   clear hy
   rename _=>hy
   split at hy
   ·cases hy
   ·rename_i Oo
    have Oo:(H.map (·.1)).contains id=false:=by simpa using Oo
    cases hx with
    |mpr _ b k o q1 hb=>
     rw[q1]at hy;have UJ:=h.YC id _ q1;split at hy
     ·rename_i sk g heq;cases heq;cases hy;obtain⟨b',es,clock,g1,g2,g3,g4⟩:=UJ;rw[g1]at hb;cases hb;exact d0B g2 g3 g4 lm (Tw h Y9 q1 Oo (.inl ⟨_,g1⟩))
     ·rename_i sk sz g heq;cases heq;cases hy;exact d3B UJ lm (fun b' XH=>Tw h Y9 q1 Oo XH) hb
     ·cases hy
  | _=>cases d<;>simp[St.Wk]at hy
theorem d6W(h:Z7 E n ψ s a w){H:Hp}(Y9:∀id o,look H id=some o->look s.hp id=some o){c:Z3}{v:Value}(hc:W9 (Im E ψ s.hp) ψ s.hp w c v)
 (hi:(c.C4 s (H.map (·.1))).WM (H.map (·.1))=true):W9 (Hl E true ψ s H w) ψ H w (c.C4 s (H.map (·.1))) v:=by
 have hH:∀id o,(H.map (·.1)).contains id=true->look s.hp id=some o->look H id=some o:=by
  intro id o hc ho;obtain⟨o',XI⟩:=b6K hc;rw[Y9 id o' XI]at ho;cases ho;exact XI
 cases hc with
 |val x v hx=>exact .val x v (hx.mono (fun b hb hm=>d3W Y9 hb hm) (fun _ _ _=>rfl))
 |ptr id off b k o ho hb=>
  simp only[Z3.C4]at hi⊢
  cases hy:s.Wk (H.map (·.1)) 3 (.ptr id off)with
  |none=>rw[hy]at hi;exact .ptr id off b k o (hH id o hi ho) hb
  |some y=>exact .val _ _ (d5W h Y9 3 _ _ y (.ptr id off b k o ho hb) hy)
theorem d7W(h:Z7 E n ψ s a w){fr:Bool}{H:Hp}(Y9:∀id o,look H id=some o->look s.hp id=some o){x:AV}{v:Value}(hx:ZL (Im E ψ s.hp) ψ s.hp w x v)
 (hi:(s.arg1 fr (H.map (·.1)) x).YO (H.map (·.1))=true):ZL (Hl E fr ψ s H w) ψ H w (s.arg1 fr (H.map (·.1)) x) v:=by
 have hH:∀id o,(H.map (·.1)).contains id=true->look s.hp id=some o->look H id=some o:=by
  intro id o hc ho;obtain⟨o',XI⟩:=b6K hc;rw[Y9 id o' XI]at ho;cases ho;exact XI
 have keep:∀{y},ZL (Im E ψ s.hp) ψ s.hp w y v->y.YO (H.map (·.1))=true->ZL (Hl E fr ψ s H w) ψ H w y v:=
  fun hy hi=>hy.restrict hi (fun b hb hm=>d3W Y9 hb hm) hH
 have other:∀{y},ZL (Im E ψ s.hp) ψ s.hp w y v->
  (if fr&& !(y.WM (H.map (·.1)))then match s.Wk (H.map (·.1)) 3 y with|some z=>AV.iv z|none=>y else y).YO (H.map (·.1))=true->
  ZL (Hl E fr ψ s H w) ψ H w (if fr&& !(y.WM (H.map (·.1)))then match s.Wk (H.map (·.1)) 3 y with|some z=>AV.iv z|none=>y else y) v:=by
  intro y hy mu;split at mu
  ·rename_i hc;rw[if_pos hc]
   have R6:fr=true:=by cases fr<;>simp_all
   subst R6
   cases hw:s.Wk (H.map (·.1)) 3 y with
   |none=>rw[hw]at mu;exact keep hy mu
   |some z=>exact .iv _ _ (d5W h Y9 3 _ _ z hy hw)
  ·rename_i hc;rw[if_neg hc];exact keep hy mu
 cases x with
 |nil sz=>rw[CJ hx];exact .iv _ _ (.V5 _)
 |iv y=>exact keep hx hi
 |fn f b c=>
  simp only[St.arg1]at hi⊢
  by_cases hc:(fr&& !((AV.fn f b c).WM (H.map (·.1))))=true
  ·rw[if_pos hc]at hi⊢
   have R6:fr=true:=by cases fr<;>simp_all
   subst R6;simp only[AV.YO,AV.WM,a3C,a8C,a0E,forall_exists_index,and_imp,forall_apply_eq_imp_iff₂]at hi
   cases hx with
   |fn _ _ _ vf vc a1 a2 a3 a4=>
    refine .fn f _ _ vf vc (by simpa using a1) (by simpa using a2) (fun i q hq=>?_) (fun i q hq=>?_)<;>rw[a1C]at hq
    ·cases qK:b[i]? with
     |none=>rw[qK]at hq;cases hq
     |some q0=>rw[qK]at hq;cases hq;exact d6W h Y9 (a3 i q0 qK) (hi.1 q0 (a6y qK))
    ·cases qK:c[i]? with
     |none=>rw[qK]at hq;cases hq
     |some q0=>rw[qK]at hq;cases hq;exact d6W h Y9 (a4 i q0 qK) (hi.2 q0 (a6y qK))
  ·rw[if_neg hc]at hi⊢;exact keep hx hi
 |sl id sz lo len=>exact other hx hi
 |ptr id off=>exact other hx hi
 |ep id sz i off=>exact other hx hi
 |mpr id=>exact other hx hi
 |un=>exact other hx hi
 |junk=>exact other hx hi
 |agg cs=>exact other hx hi
 |Zp cs=>exact other hx hi
theorem d8W{ids:List Nat}{x:AV}(h:x.WM ids=true):x.YO ids=true:=by
 cases x<;>simp_all[AV.YO,AV.WM]
theorem d9W(h:Z7 E n ψ s a w){fr:Bool}{H:Hp}(Y9:∀id o,look H id=some o->look s.hp id=some o){x:AV}{v:Value}(hx:ZL (Im E ψ s.hp) ψ s.hp w x v)
 (hi:(s.arg fr (H.map (·.1)) x).YO (H.map (·.1))=true):ZL (Hl E fr ψ s H w) ψ H w (s.arg fr (H.map (·.1)) x) v:=by
 cases x with
 |agg cs=>
  simp only[St.arg,AV.YO,List.all_map,a8C]at hi⊢;obtain⟨vs,h1,h2,rfl⟩:=mW hx
  refine .agg _ _ (by simpa using h1) fun i c hc=>?_
  rw[a1C]at hc
  cases V9:cs[i]? with
  |none=>rw[V9]at hc;cases hc
  |some c0=>
   rw[V9]at hc;cases hc;exact d7W h Y9 (h2 i c0 V9) (d8W (hi c0 (a6y V9)))
 | _=>exact d7W h Y9 hx hi
theorem d0X{A:Nat->Prop}{H:Hp}{c:Z3}{v:Value}(h:W9 A ψ H w c v):ZL A ψ H w c.av v:=by
 cases h with
 |ptr id off b k o ho hb=>exact .ptr id off b k o ho hb
 |val x v h1=>exact .iv _ _ h1
theorem d1X{o:Oper}{f:FuncId}{pre post:List Z3}{ops:List Operand}{vs:List Value}{y:Option Operand}(h:Z7 E n ψ s a w)(hd:d<1000)
 (hr:(execOp a.eval o).run P w= .ok (.enter f vs.toArray) w)
 (kP:∀ψ s1,Z7 E n ψ s1 a w->(match y with|some y=>s1.ev y= .fn f pre post|none=>True)->(s1.args pre ops post).length=vs.length/\∀i x,(s1.args pre ops post)[i]? =some x->ZL (Im E ψ s1.hp) ψ s1.hp w x (vs.getD i undef))
 (hk:KQ P d f pre ops post y s K):XX P E n o a w K:=by
 obtain⟨s0,hle,fr,H,R,s1,H7,hy1,as1,has,hc,hk⟩:=hk;obtain⟨g8U,g9U⟩:=c1I has;obtain⟨ψ,h⟩:=hle E n a w ⟨_,h⟩
 have h1:Z7 E n ψ s1 a w:=by
  rw[H7];refine Z7.drop ?_ hd;cases fr
  ·exact h.YX _
  ·exact h
 obtain⟨l1,l2⟩:=kP ψ s1 h1 hy1;intro K' Q hK;unfold MQ;rw[hr];simp only[Dv]
 have VS:=hc.spec.2 (Hl E fr ψ s1 H w) ψ w vs (fun b hb=>hb.1)
  (fun id o ho=>(h1.YC id o (hc.sub id o ho)).restrict (hc.own id o ho) (fun b hb hm=>d3W hc.sub hb hm) (fun id o hcc ho=>by
   obtain⟨o',XI⟩:=b6K hcc
   rw[hc.sub id o' XI]at ho;cases ho;exact XI))
  (fun id XK o o' b h2 h3 h4 h5=>h1.inj id XK o o' b (hc.sub id o h2) (hc.sub XK o' h3) h4 h5)
  (fun id o b h2 h3=>h1.YU id o b (hc.sub id o h2) h3)
  (fun b hb hl=>by
   cases fr
   ·exact hl.2.2 (by obtain⟨id,o,h2,h3⟩:=hb;exact⟨id,o,hc.sub id o h2,h3⟩)
   ·exact hl.2 hb)
  (by rw[g8U];exact l1.symm)
  (fun i x hx=>by
   obtain⟨y,hi,e⟩:=g9U i x hx
   rcases e with rfl|⟨sz,Zz,rfl,rfl⟩
   ·exact d9W h1 hc.sub (l2 i y hi) (a8C.1 hc.refs _ (a6y hx))
   ·have:=l2 i _ hi;generalize vs.getD i undef=v at this;cases this
    exact .nil Zz)
 refine VS.mono ?_;rintro e w' ⟨v,ZF,res,H',hR,rfl,k1,k2,k3,k4,k5,k6,kS,k7,k8⟩;obtain⟨Zj,g1,g2⟩:=h1.called (hc.sh hR) (A:=Hl E fr ψ s1 H w) (fun hf b hb=>by subst hf;exact hb.2) k1 k2 k3 k4 k5 k6 kS k7 k8;exact⟨v,rfl,hK (s1.join H') res Zj v w' (hk res H' hR) g1 g2⟩
theorem d2X{o:Oper}{l:Nat}{ops:List Operand}{vs:List Value}(h:Z7 E n ψ s a w)
 (hr:(execOp a.eval o).run P w=(Instr.yield l vs.toArray).run P w)
 (kP:∀ψ s1,Z7 E n ψ s1 a w->(ops.map s1.ev).length=vs.length/\∀i x,(ops.map s1.ev)[i]? =some x->ZL (Im E ψ s1.hp) ψ s1.hp w x (vs.getD i undef))
 (hk:c8H P l ops s K):XX P E n o a w K:=by
 obtain⟨s1,g,Z,b,Z',xs,hle,hg,⟨NA,Ul⟩,hy,hk⟩:=hk;obtain⟨ψ,h1⟩:=hle E n a w ⟨_,h⟩;obtain⟨l1,l2⟩:=kP ψ s1 h1;rw[NA]at l1 l2;obtain⟨o1,o2,_,_⟩:=h1.YC g _ hg
 have hB:∀k,ψ.sub g k->k<w.heap.size:=fun k hk=>(h1.YU g _ k hg hk).2.1
 have hBH:∀k,ψ.sub g k->ZD ψ s1.hp k:=fun k hk=>⟨g,_,hg, .inr hk⟩
 have Tp:NF Z (fun k=>k<w.heap.size/\Im E ψ s1.hp k) (ψ.sub g) w:=o2.mono (fun b hb h=>⟨hb,h⟩) (fun _ h=>h) (fun _ _ _=>rfl) (fun _ _=>rfl)
 obtain⟨fn,tmps,assign,body,XA,Wx⟩:=hy (fun k=>k<w.heap.size/\Im E ψ s1.hp k) (ψ.sub g) w vs (fun k hk=>hk.1) hB (fun k hk hi=>hi.2.2 (hBH k hk)) Tp (by simpa using l1.symm)
  (fun i x hx=>(c6H (a8C.1 Ul x (a6y hx)) (l2 i x hx)).mono (fun b hb h=>⟨hb,h⟩) (fun _ _ _=>rfl) (fun id o ho=>by cases ho))
 intro K' Q hK;unfold MQ;rw[hr,XA];simp only[Dv];intro m;refine(Wx m).mono ?_;rintro e w' ⟨B',rfl,k1,k2,k3,k4,k5,k6⟩;refine⟨_,rfl,?_⟩
 have hO:∀{ψ:Pl} {Z:GZ} {b:Nat},ZD ψ [(g,Ob.gh Z [] [])] b↔ZZ ψ g b:=by
  intro ψ Z b;constructor
  ·rintro⟨id,o,ho,hb⟩;simp only[look]at ho;split at ho
   ·rename_i e;subst e;exact hb
   ·cases ho
  ·intro hb;exact⟨g, .gh Z [] [],by simp[look],hb⟩
 let ZF:Pl:=⟨ψ.main,fun id b=>if id=g then B' b else ψ.sub id b⟩
 have lk:∀{o:Ob} {id:Nat} {q:Ob},look [(g,o)] id=some q->id=g/\q=o:=by
  intro o id q h;simp only[look]at h;split at h
  ·rename_i e;exact⟨e.symm,by cases h;rfl⟩
  ·cases h
 have GN:∀{b},ZZ ZF g b↔B' b:=by
  intro b;constructor
  ·rintro(⟨k,h⟩|h)
   ·exact absurd (show ψ g=some (b,k)from h) (by rw[o1];simp)
   ·simpa[ZF]using h
  ·intro h;exact .inr (by simpa[ZF]using h)
 have nk:∀{b},ZZ ψ g b↔ψ.sub g b:=by
  intro b;constructor
  ·rintro(⟨k,h⟩|h)
   ·rw[o1]at h;cases h
   ·exact h
  ·intro h;exact .inr h
 obtain⟨Zj,g1,g2⟩:=h1.called (H:=[(g, .gh Z [] [])]) (H':=[(g, .gh Z' [] [])]) (fr:=false) (res:= .iv (.v (.bool b))) (v:= .bool b) (ZF:=ZF) (A:=fun k=>k<w.heap.size/\Im E ψ s1.hp k)
  ⟨fun id o ho=>by obtain⟨_,rfl⟩:=lk ho;rfl,fun id o ho=>by obtain⟨_,rfl⟩:=lk ho;rfl,fun id o ho=>by obtain⟨rfl,rfl⟩:=lk ho;exact hg,
   fun id o ho=>by obtain⟨rfl,rfl⟩:=lk ho;exact⟨.gh Z' [] [],by simp[look],Ob.le_none rfl⟩,fun id o ho hn=>by obtain⟨rfl,rfl⟩:=lk ho;simp[look]at hn⟩
  (fun _ k hk=>hk.2) (fun k hk hn=>k1 k hk fun hb=>hn (hO.2 (nk.2 hb))) k2 k3 (fun id o ho=>rfl)
  (fun id o k ho hk=>by
   obtain⟨rfl,rfl⟩:=lk ho
   rcases k4 k (GN.1 hk)with h|h
   ·exact .inl ⟨.gh Z [] [],by simp[look],nk.2 h⟩
   ·exact .inr h)
  (fun id XK o o' k ho XI _ _=>by obtain⟨rfl,rfl⟩:=lk ho;obtain⟨rfl,rfl⟩:=lk XI;rfl)
  (fun id o k ho hk=>by
   obtain⟨rfl,rfl⟩:=lk ho
   exact⟨rfl,k5 k (GN.1 (.inr hk)),fun q=>by show ψ id≠_;rw[o1];simp⟩)
  (fun id o ho=>by
   obtain⟨rfl,rfl⟩:=lk ho;refine⟨o1,k6.mono (fun k _ hk=>⟨?_,fun hh=>hk.2 (GN.1 (hO.1 hh))⟩) (fun k hk=>by simpa[ZF]using hk) (fun _ _ _=>rfl) (fun _ _=>rfl),rfl,by simp⟩
   rcases hk.1 with h|h
   ·exact .inl ⟨rfl,h⟩
   ·exact .inr h)
  (.iv _ _ (.v _ rfl))
 exact hK _ _ _ _ _ hk g1 g2
theorem d3X{f:FuncId}(h:XV P f=true)(vs:Array Value)(w:World):(callFunc f vs).run P w= .ok (.enter f vs) w:=by
 unfold XV at h
 cases hf:P.funcs[f]? with
 |none=>rw[hf]at h;cases h
 |some fn=>
  rw[hf]at h;simp only[a3C,bne_iff_ne,ne_eq]at h;simp only[callFunc,Sem.run_bind,run_program,Result.andThen_ok,hf]
  have h1:(fn.name== "runtime.NumGoroutine")=false:=by simpa using h.1
  have h2:fn.body.isNone=false:=by cases hb:fn.body<;>simp_all
  simp[h1,h2]
theorem d4X(h:Z7 E n ψ s a w)(ops:List Operand):∀i x,(ops.map s.ev)[i]? =some x->ZL (Im E ψ s.hp) ψ s.hp w x ((ops.map a.eval).getD i undef):=by
 intro i x hx;rw[a1C]at hx
 cases hi:ops[i]? with
 |none=>rw[hi]at hx;cases hx
 |some o=>rw[hi]at hx;cases hx;simp only[a7V,a1C,hi,a8H,a1J];exact h.ev o
theorem d5X{f:FuncId}{args:Array Operand}{ts:Array TypeId}(hf:XV P f=true)(hd:d<1000)(h:Z7 E n ψ s a w)(hk:ZQ P d s K (.call f args.toList)):
 XX P E n ⟨dst, .call ⟨.value (.func f),args,ts⟩,ty,pos,af,g⟩ a w K:=by
 simp only[ZQ]at hk;refine d1X (vs:=args.toList.map a.eval) h hd ?_ (fun ψ s1 h1 _=>⟨by simp[St.args],by simpa[St.args]using d4X h1 args.toList⟩) hk
 have:(args.toList.map a.eval).toArray=args.map a.eval:=by apply b1p;simp
 rw[this];simp only[execOp,resolve,Act.eval,Deferred.ofValue,Sem.run_bind,Sem.run_pure,Result.andThen_ok,invoke]
 have e2:(#[]++args.map a.eval)++ #[]=args.map a.eval:=by simp
 exact(congrArg (fun z=>(callFunc f z).run P w) e2).trans (d3X hf _ w)
theorem d6X{A:Nat->Prop}{H:Hp}{l:List Z3}{vs:Array Value}(hl:vs.size=l.length)(h:∀i c,l[i]? =some c->W9 A ψ H w c (vs.getD i undef)):
 (l.map Z3.av).length=vs.toList.length/\∀i x,(l.map Z3.av)[i]? =some x->ZL A ψ H w x (vs.toList.getD i undef):=by
 refine⟨by simp[hl],fun i x hx=>?_⟩;rw[a1C]at hx
 cases hi:l[i]? with
 |none=>rw[hi]at hx;cases hx
 |some c=>rw[hi]at hx;cases hx;rw[Sn];exact d0X (h i c hi)
theorem d7X{A:Nat->Prop}{H:Hp}{l1 l2:List AV}{v1 v2:List Value}(h1:l1.length=v1.length/\∀i x,l1[i]? =some x->ZL A ψ H w x (v1.getD i undef))
 (h2:l2.length=v2.length/\∀i x,l2[i]? =some x->ZL A ψ H w x (v2.getD i undef)):(l1++l2).length=(v1++v2).length/\∀i x,(l1++l2)[i]? =some x->ZL A ψ H w x ((v1++v2).getD i undef):=by
 refine⟨by simp[h1.1,h2.1],fun i x hx=>?_⟩
 by_cases hi:i<l1.length
 ·rw[a9L hi]at hx;have:=h1.2 i x hx;rw[show(v1++v2).getD i undef=v1.getD i undef from by simp only[a7V];rw[a9L (by omega)]]
  exact this
 ·rw[a7U (by omega)]at hx;have:=h2.2 _ x hx;rw[show(v1++v2).getD i undef=v2.getD (i-l1.length) undef from by simp only[a7V];rw[a7U (by omega),h1.1]]
  exact this
theorem d8X{x:Operand}{args:Array Operand}{ts:Array TypeId}(hd:d<1000)(h:Z7 E n ψ s a w)
 (hk:ZQ P d s K (.Zc x args.toList)):XX P E n ⟨dst, .call ⟨.value x,args,ts⟩,ty,pos,af,g⟩ a w K:=by
 simp only[ZQ]at hk;split at hk
 ·rename_i f first caps hx;obtain⟨ZY,hk⟩:=hk;have qJ:=h.ev x;rw[hx]at qJ
  obtain⟨vf,vc,hv⟩:∃vf vc,a.eval x= .func (.func f) vf vc:=by
   generalize a.eval x=vx at qJ
   cases qJ with|fn _ _ _ vf vc=>exact⟨vf,vc,rfl⟩
  refine d1X (vs:=vf.toList++args.toList.map a.eval++vc.toList) h hd ?_ (fun ψ s1 h1 hy=>?_) hk
  ·have e1:(vf.toList++args.toList.map a.eval++vc.toList).toArray=(vf++args.map a.eval)++vc:=by apply b1p;simp
   rw[e1];simp only[execOp,resolve,hv,Deferred.ofValue,Sem.run_bind,Sem.run_pure,Result.andThen_ok,invoke];exact d3X ZY _ w
  ·have f6Z:=h1.ev x;simp only at hy;rw[hy,hv]at f6Z
   cases f6Z with
   |fn _ _ _ _ _ a1 a2 a3 a4=>
    exact d7X (d7X (d6X a1 a3) ⟨by simp,d4X h1 args.toList⟩) (d6X a2 a4)
 ·rename_i l vf vc hx;obtain⟨rfl,rfl,hk⟩:=hk;have qJ:=h.ev x;rw[hx]at qJ;have hv:a.eval x= .func (.yield l) #[] #[]:=Vp qJ;refine d2X (vs:=args.toList.map a.eval) h ?_ (fun ψ s1 h1=>⟨by simp,d4X h1 args.toList⟩) hk
  have e1:(args.toList.map a.eval).toArray=args.map a.eval:=by apply b1p;simp
  rw[e1];simp only[execOp,resolve,hv,Deferred.ofValue,Sem.run_bind,Sem.run_pure,Result.andThen_ok,invoke]
  have e2:(#[]++args.map a.eval)=args.map a.eval:=by simp
  first
  |rfl
  |rw[e2]
 ·rename_i f vf vc hx;obtain⟨rfl,rfl,hf,hk⟩:=hk;have qJ:=h.ev x;rw[hx]at qJ;have hv:a.eval x= .func (.func f) #[] #[]:=Vp qJ;refine d1X (vs:=args.toList.map a.eval) h hd ?_ (fun ψ s1 h1 _=>⟨by simp[St.args],by simpa[St.args]using d4X h1 args.toList⟩) hk
  have:(args.toList.map a.eval).toArray=args.map a.eval:=by apply b1p;simp
  rw[this];simp only[execOp,resolve,hv,Deferred.ofValue,Sem.run_bind,Sem.run_pure,Result.andThen_ok,invoke]
  have e2:(#[]++args.map a.eval)++ #[]=args.map a.eval:=by simp
  exact(congrArg (fun z=>(callFunc f z).run P w) e2).trans (d3X hf _ w)
 ·exact hk.elim
end
end Go.Vm
end
