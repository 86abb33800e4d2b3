/- Contracts of functions of the program, and what they lean on. Conditions: those of each theorem. -/
import Derived.Calls
import Derived.Laws.World
import Derived.Laws.Sem
import Derived.RangeFuncLeaves
import Derived.RangeFuncRecord
import Derived.OrdersIn
import Derived.TacticsIn
import Derived.LoopIn
import Derived.Laws.StructEq

set_option linter.unusedVariables false
set_option linter.unusedSimpArgs false
set_option maxHeartbeats 64000000
set_option maxRecDepth 100000
open Array renaming getElem?_eq_getElem->a2S,getD_eq_getD_getElem?->a4E,getElem?_modify->a1Q,ext'->b3n,toList_map->c3K,foldl_toList->d7l,toList_zipIdx->d1f,range->d7Q,getElem?_append_left->c9p,getElem?_append_right->c2Q
open Bool renaming or_eq_true->b6L,not_eq_true->c1h,and_eq_true->a4C,false_eq_true->a5M,not_false->d4O
open Classical renaming choose->b6u,choose_spec->b5P
open Function renaming comp_def->b8q
open List renaming map_cons->a0G,getElem?_map->a0C,any_eq_true->b4o,mem_of_getElem?->a8y,getElem?_take->a5N,getElem?_drop->a9J,eq_nil_of_length_eq_zero->a8R,mem_of_mem_drop->b3M,mem_of_mem_take->b4j,getElem?_eq_some_iff->a7y,getElem?_eq_getElem->a3I,getD->a7V,getElem_mem->d5t,getElem?_cons_zero->a9E,mem_map->a3E,take_zero->b2S,replicate->a6R,range->a0I,cons_append->c6h,all_eq_true->a0E,getElem?_cons_succ->a2I,length_nil->c4n,foldlM_cons->c5L,mapM_cons->a3N,getD_cons_zero->c0F,zipIdx_cons->d2u,foldl_cons->b0k,append_assoc->c1y,getElem?_append_left->a1N,getElem?_append_right->a5V,getElem_of_mem->d8m,length_cons->a3O,getElem?_toArray->c8E,length_pos_iff->a6I,mem_or_eq_of_mem_set->c7S,getElem?_set->b6T,drop_eq_getElem_cons->c8S,take_succ_cons->d9m,drop_drop->d1P,drop_zero->c2T,take_of_length_le->a2B
open List.cons renaming injEq->a4S
open Nat renaming le_refl->a8F,le_trans->a9L,lt_of_lt_of_le->a4N,eq_zero_or_pos->b5j,mul_le_mul_right->a5E,add_mul->a8M,add_zero->b1P,zero_add->b4s,add_assoc->b3P,mul_comm->c5w,mod_lt->d6S,div_add_mod->d4C,sub_mul->d9Q
open Option renaming map_some->a4G,bind_eq_bind->a1V,bind_some->a5J,map->d2Q,getD_some->a2L
open Option.some renaming injEq->a5y
open Prod.mk renaming injEq->a6J

section
namespace Go.Vm
inductive Kd where
 |b
 |i (k:IntKind)
 |s
 deriving DecidableEq,Inhabited
def Za:Value->Option Kd
 | .bool _=>some .b
 | .int k _=>some (.i k)
 | .string _=>some .s
 | _=>none
abbrev Sk:=Bool×List Kd×Bool
def Xl:Value->Option (Bool×List Kd)
 | .agg cs=>(cs.toList.mapM Za).map fun l=>(true,l)
 |v=>(Za v).map fun k=>(false,[k])
inductive IV where
 |v (x:Value)
 |Z6 (sz:Nat) (xs:List (List IV))
 |pt (cs:List IV)
 |mp (sk:Sk) (g:List Value->Option (List IV))
 deriving Inhabited
def at2{α:Type}(xs:List (List α))(i j:Nat):Option α:=xs[i]?.bind (·[j]?)
def X9(v:Value):List Value:=v.cells.toList
def SU:Value->Bool
 | .agg _=>true
 | _=>false
def Fits(sk:Sk)(e:MapEntry):Prop:=Xl e.key=some (sk.1,sk.2.1)/\SU e.val=sk.2.2
def WG(es:Array MapEntry)(clock:Nat):Prop:=(∀e∈es.toList,e.born<clock)/\(es.toList.map (·.born)).Nodup
inductive YB (A:Nat->Prop) (w:World):IV->Value->Prop
 |v (x:Value) (h1:x.oneCell'=true):YB A w (.v x) x
 |Wj (sz:Nat):YB A w (.Z6 sz []) (.slice none 0 0)
 |Z6 (sz:Nat) (xs:List (List IV)) (b off cap:Nat) (a:Addr) (vs:Nat->Nat->Value)
  (ha:xs≠[]->a=⟨b,off,none⟩) (hs:∀x∈xs,x.length=sz) (VA:xs.length<=cap)
  (hc:∀i j c,at2 xs i j=some c->A b/\w.cell? ⟨b,off+(i*sz+j),none⟩=some (vs i j))
  (hr:∀i j c,at2 xs i j=some c->YB A w c (vs i j)):YB A w (.Z6 sz xs) (.slice (some a) xs.length cap)
 |pt (cs:List IV) (b off:Nat) (vs:Nat->Value)
  (hc:∀i c,cs[i]? =some c->A b/\w.cell? ⟨b,off+i,none⟩=some (vs i))
  (hr:∀i c,cs[i]? =some c->YB A w c (vs i)):YB A w (.pt cs) (.pointer (some ⟨b,off,none⟩))
 |mp (sk:Sk) (g:List Value->Option (List IV)) (b clock:Nat) (es:Array MapEntry) (vs:List Value->Nat->Value)
  (hA:A b) (hh:w.heap[b]? =some (.map es clock))
  (UM:∀e∈es.toList,Fits sk e)
  (Yq:∀e∈es.toList,∃c,g (X9 e.key)=some c)
  (Y6:(es.toList.map fun e=>X9 e.key).Nodup) (YL:WG es clock)
  (hg:∀k c,g k=some c->∃e∈es.toList,X9 e.key=k/\e.val.cells.size=c.length/\∀i x,c[i]? =some x->e.val.cells[i]? =some (vs k i))
  (hr:∀k c,g k=some c->∀i x,c[i]? =some x->YB A w x (vs k i)):YB A w (.mp sk g) (.map (some b))
 |Nd (sk:Sk) (g:List Value->Option (List IV)) (h:∀k,g k=none):YB A w (.mp sk g) (.map none)
theorem VJ{w:World}{b:Nat}{o:Obj}(h:w.heap[b]? =some o):b<w.heap.size:=by
 rcases Nat.lt_or_ge b w.heap.size with h'|h'
 ·exact h'
 ·rw[Array.getElem?_eq_none h']at h;cases h
theorem d7S{w w':World}{b:Nat}(h:w'.heap[b]? =w.heap[b]?)(o:Nat):w'.cell? ⟨b,o,none⟩=w.cell? ⟨b,o,none⟩:=by
 simp only[World.cell?,h]
theorem YB.mono{A A':Nat->Prop}{w w':World}{x:IV}{v:Value}(h:YB A w x v)
 (hA:∀b,b<w.heap.size->A b->A' b) (hw:∀b,b<w.heap.size->A b->w'.heap[b]? =w.heap[b]?):YB A' w' x v:=by
 induction h with
 |v x h1=>exact .v x h1
 |Wj sz=>exact .Wj sz
 |Z6 sz xs b off cap a vs ha hs VA hc hr ih=>
  refine .Z6 sz xs b off cap a vs ha hs VA (fun i j c h=>?_) ih;obtain⟨h1,h2⟩:=hc i j c h;have hb:=World.block_lt_of_cell? w _ h2;exact⟨hA b hb h1,by rw[d7S (hw b hb h1)];exact h2⟩
 |pt cs b off vs hc hr ih=>
  refine .pt cs b off vs (fun i c h=>?_) ih;obtain⟨h1,h2⟩:=hc i c h;have hb:=World.block_lt_of_cell? w _ h2;exact⟨hA b hb h1,by rw[d7S (hw b hb h1)];exact h2⟩
 |mp sk g b clock es vs oE hh UM Yq Y6 YL hg hr ih=>
  have hb:=VJ hh;exact .mp sk g b clock es vs (hA b hb oE) (by rw[hw b hb oE];exact hh) UM Yq Y6 YL hg ih
 |Nd sk g h=>exact .Nd sk g h
inductive Z3 where
 |ptr (id off:Nat)
 |val (x:IV)
 deriving Inhabited
inductive AV where
 |iv (x:IV)
 |nil (sz:Nat)
 |sl (id sz lo len:Nat)
 |ptr (id off:Nat)
 |ep (id sz i off:Nat)
 |mpr (id:Nat)
 |fn (f:FuncId) (first caps:List Z3)
 |agg (cs:List AV)
 |Zp (vs:List AV)
 |un
 |junk
 deriving Inhabited
abbrev GZ:=(Nat->Prop)->(Nat->Prop)->World->Prop
inductive Ob where
 |box (cs:List AV)
 |list (sz:Nat) (xs:List (List IV))
 |map (sk:Sk) (g:List Value->Option (List IV))
 |WT (sk:Sk) (g:List Value->Option (List IV)) (n:Int) (k:List Value)
 |YU (org sz:Nat) (xs:List (List IV))
 |YJ (sk:Sk) (sz:Nat) (g:List Value->Option (List (List IV))) (hole:Option (List Value))
 |ZI (sz:Nat) (xs:List (List (List IV))) (hole:Option Nat)
 |iter (sk:Sk) (g:List Value->Option (List IV)) (left:List (List Value)) (last:Option (List Value))
 |gh (Z:GZ) (vs:List Value) (cs:List AV)
def Ob.dim:Ob->Option (Nat×Nat)
 | .list sz xs=>some (sz,xs.length)
 | .YU _ sz xs=>some (sz,xs.length)
 | .ZI _ xs _=>some (1,xs.length)
 | _=>none
def Ob.org:Ob->Nat->Nat
 | .YU org _ _,_=>org
 | _,id=>id
def Ob.Zl:Ob->Bool
 | .YU .. =>true
 | _=>false
def Ob.multi:Ob->Bool
 | .YJ .. =>true
 | .ZI .. =>true
 | .gh .. =>true
 | _=>false
abbrev Hp:=List (Nat×Ob)
def look{α:Type}:List (Nat×α)->Nat->Option α
 | [],_=>none
 |(j,x)::r,k=>if j=k then some x else look r k
structure Pl where
 main:Nat->Option (Nat×(Nat×Nat))
 sub:Nat->Nat->Prop
instance:CoeFun Pl (fun _=>Nat->Option (Nat×(Nat×Nat))):=⟨Pl.main⟩
inductive Xg (A:Nat->Prop) (ψ:Pl) (H:Hp) (w:World):Z3->Value->Prop
 |ptr (id off b:Nat) (k:Nat×Nat) (o:Ob) (ho:look H id=some o) (hb:ψ id=some (b,k)):Xg A ψ H w (.ptr id off) (.pointer (some ⟨b,off,none⟩))
 |val (x:IV) (v:Value) (h1:YB A w x v):Xg A ψ H w (.val x) v
inductive ZK (A:Nat->Prop) (ψ:Pl) (H:Hp) (w:World):AV->Value->Prop
 |iv (x:IV) (v:Value) (h:YB A w x v):ZK A ψ H w (.iv x) v
 |nil (sz:Nat):ZK A ψ H w (.nil sz) (.slice none 0 0)
 |U4 (id sz:Nat) (o:Ob) (n:Nat) (ho:look H id=some o) (he:o.dim=some (sz,n)) (hb:ψ id=none):ZK A ψ H w (.sl id sz 0 0) (.slice none 0 0)
 |sl (id sz lo len b:Nat) (k:Nat×Nat) (cap:Nat) (a:Addr) (o:Ob) (n:Nat) (ho:look H id=some o) (he:o.dim=some (sz,n)) (hx:lo+len<=n)
  (hb:ψ id=some (b,k)) (ha:0<cap->a=⟨b,k.1+lo*sz,none⟩) (UO:len<=cap) (hk:(lo+cap)*sz<=k.2) (hm:cap<2^63):
  ZK A ψ H w (.sl id sz lo len) (.slice (some a) len cap)
 |ptr (id off b:Nat) (k:Nat×Nat) (o:Ob) (ho:look H id=some o) (hb:ψ id=some (b,k)):ZK A ψ H w (.ptr id off) (.pointer (some ⟨b,off,none⟩))
 |ep (id sz i off b:Nat) (k:Nat×Nat) (o:Ob) (n:Nat) (ho:look H id=some o) (he:o.dim=some (sz,n)) (hi:i<n) (hb:ψ id=some (b,k)):
  ZK A ψ H w (.ep id sz i off) (.pointer (some ⟨b,k.1+(i*sz+off),none⟩))
 |mpr (id b:Nat) (k:Nat×Nat) (o:Ob) (ho:look H id=some o) (hb:ψ id=some (b,k)):ZK A ψ H w (.mpr id) (.map (some b))
 |fn (f:FuncId) (first caps:List Z3) (vf vc:Array Value) (hf:vf.size=first.length) (hc:vc.size=caps.length)
  (h1:∀i c,first[i]? =some c->Xg A ψ H w c (vf.getD i undef)) (h2:∀i c,caps[i]? =some c->Xg A ψ H w c (vc.getD i undef)):
  ZK A ψ H w (.fn f first caps) (.func (.func f) vf vc)
 |agg (cs:List AV) (vs:Array Value) (hl:vs.size=cs.length) (h:∀i c,cs[i]? =some c->ZK A ψ H w c (vs.getD i undef)):ZK A ψ H w (.agg cs) (.agg vs)
 |Zp (cs:List AV) (vs:Array Value) (hl:vs.size=cs.length) (h:∀i c,cs[i]? =some c->ZK A ψ H w c (vs.getD i undef)):ZK A ψ H w (.Zp cs) (.tuple vs)
 |un:ZK A ψ H w .un undef
 |junk (v:Value):ZK A ψ H w .junk v
def Ob.le(o o':Ob):Prop:=∀sz n,o.dim=some (sz,n)->∃n',o'.dim=some (sz,n')/\n<=n'
theorem Ob.le_refl(o:Ob):o.le o:=fun _ n h=>⟨n,h,a8F _⟩
theorem Ob.le_none{o o':Ob}(h:o.dim=none):o.le o':=fun _ _ h'=>by rw[h]at h';cases h'
theorem Ob.Se{o o':Ob}{sz n n':Nat}(h:o.dim=some (sz,n))(h':o'.dim=some (sz,n'))(hn:n<=n'):o.le o':=fun _ _ e=>by
 rw[h]at e;cases e;exact⟨n',h',hn⟩
def Vt(ψ ZF:Pl)(H H':Hp):Prop:=∀id o,look H id=some o->(∃o',look H' id=some o'/\o.le o')/\ZF id=ψ id
theorem Vt.refl(ψ:Pl)(H:Hp):Vt ψ ψ H H:=fun _ o h=>⟨⟨o,h,o.le_refl⟩,rfl⟩
theorem Vt.dim{ψ ZF:Pl}{H H':Hp}(h:Vt ψ ZF H H'){id sz n:Nat}{o:Ob}(ho:look H id=some o)(he:o.dim=some (sz,n)):
 ∃o' n',look H' id=some o'/\o'.dim=some (sz,n')/\n<=n':=by
 obtain⟨⟨o',h1,h2⟩,_⟩:=h id _ ho;obtain⟨n',h3,h4⟩:=h2 sz n he;exact⟨o',n',h1,h3,h4⟩
theorem Xg.mono{A A':Nat->Prop}{ψ ZF:Pl}{H H':Hp}{w w':World}{c:Z3}{v:Value}(h:Xg A ψ H w c v)
 (hA:∀b,b<w.heap.size->A b->A' b) (hw:∀b,b<w.heap.size->A b->w'.heap[b]? =w.heap[b]?) (hk:Vt ψ ZF H H'):Xg A' ZF H' w' c v:=by
 cases h with
 |ptr id off b k o ho hb=>
  obtain⟨⟨o',h1,_⟩,h2⟩:=hk id o ho;exact .ptr id off b k o' h1 (by rw[h2];exact hb)
 |val x v h1=>exact .val x v (h1.mono hA hw)
theorem ZK.mono{A A':Nat->Prop}{ψ ZF:Pl}{H H':Hp}{w w':World}{x:AV}{v:Value}(h:ZK A ψ H w x v)
 (hA:∀b,b<w.heap.size->A b->A' b) (hw:∀b,b<w.heap.size->A b->w'.heap[b]? =w.heap[b]?) (hk:Vt ψ ZF H H'):ZK A' ZF H' w' x v:=by
 induction h with
 |iv x v h=>exact .iv x v (h.mono hA hw)
 |nil sz=>exact .nil sz
 |U4 id sz o n ho he hb=>
  obtain⟨o',n',h1,h2,h3⟩:=hk.dim ho he;exact .U4 id sz o' n' h1 h2 (by rw[(hk id _ ho).2];exact hb)
 |sl id sz lo len b k cap a o n ho he hx hb ha UO R7 hm=>
  obtain⟨o',n',h1,h2,h3⟩:=hk.dim ho he;exact .sl id sz lo len b k cap a o' n' h1 h2 (a9L hx h3) (by rw[(hk id _ ho).2];exact hb) ha UO R7 hm
 |ptr id off b k o ho hb=>
  obtain⟨⟨o',h1,_⟩,h2⟩:=hk id o ho;exact .ptr id off b k o' h1 (by rw[h2];exact hb)
 |ep id sz i off b k o n ho he hi hb=>
  obtain⟨o',n',h1,h2,h3⟩:=hk.dim ho he;exact .ep id sz i off b k o' n' h1 h2 (a4N hi h3) (by rw[(hk id _ ho).2];exact hb)
 |mpr id b k o ho hb=>
  obtain⟨⟨o',h1,_⟩,h2⟩:=hk id o ho;exact .mpr id b k o' h1 (by rw[h2];exact hb)
 |fn f first caps vf vc hf hc h1 h2=>
  exact .fn f first caps vf vc hf hc (fun i c h=>(h1 i c h).mono hA hw hk) (fun i c h=>(h2 i c h).mono hA hw hk)
 |agg cs vs hl _ ih=>exact .agg cs vs hl ih
 |Zp cs vs hl _ ih=>exact .Zp cs vs hl ih
 |un=>exact .un
 |junk v=>exact .junk v
structure St where
 fr:List (Nat×AV)
 hp:Hp
def St.get(s:St)(t:Nat):AV:=(look s.fr t).getD .junk
def St.set(s:St)(d:Nat)(x:AV):St:={s with fr:=(d,x)::s.fr}
def St.put(s:St)(d:Option Nat)(x:AV):St:=match d with|some d=>s.set d x|none=>s
theorem St.Xd(s:St)(d t:Nat)(x:AV):(s.set d x).get t=if d=t then x else s.get t:=by
 simp only[St.get,St.set,look];split<;>rfl
def Z2(ψ:Pl)(id b:Nat):Prop:=(∃k,ψ id=some (b,k))\/ψ.sub id b
structure En where
 A:Nat->Prop
 w:World
 ids:List Nat
 ψ:Pl
 big:∀id∈ids,1000<=id
 pq:∀b id,id∈ids->Z2 ψ id b->¬A b
 there:∀id b,id∈ids->Z2 ψ id b->b<w.heap.size
 inA:∀b,A b->b<w.heap.size
 Oh:Nat->Prop
 f8i:∀b,Oh b->b<w.heap.size
 f9i:∀b,Oh b->¬A b
 Lv:∀b id,id∈ids->Z2 ψ id b->¬Oh b
def En.mp(E:En)(b:Nat):Prop:=(∃id∈E.ids,Z2 E.ψ id b)\/E.Oh b
def En.fresh(E:En)(b:Nat):Prop:=E.Oh b\/E.w.heap.size<=b
theorem En.no{E:En}{b:Nat}{α:Prop}(hb:b<E.w.heap.size)(hm:¬E.mp b)(h:E.fresh b):α:=by
 rcases h with h|h
 ·exact absurd (.inr h) hm
 ·omega
def ZD(ψ:Pl)(H:Hp)(b:Nat):Prop:=∃id o,look H id=some o/\Z2 ψ id b
def Uv(ψ:Pl)(H:Hp)(w:World):Prop:=∀id o b,look H id=some o->ψ.sub id b->o.multi=true/\b<w.heap.size/\∀k,ψ id≠some (b,k)
def Im(E:En)(ψ:Pl)(H:Hp)(b:Nat):Prop:=(E.A b\/E.fresh b)/\¬ZD ψ H b
def ctl:Obj->Bool
 | .deferred _=>true
 | .loop _=>true
 | _=>false
def Qx(w:World)(b:Nat):Prop:=∃o,w.heap[b]? =some o/\ctl o=true
def Oi(Z:GZ)(A B:Nat->Prop)(w:World):Prop:=∀(A' B':Nat->Prop) (w':World),(∀b,b<w.heap.size->A b->¬Qx w b->A' b)->(∀b,B b->B' b)->
 (∀b,b<w.heap.size->A b->¬Qx w b->w'.heap[b]? =w.heap[b]?)->(∀b,B b->w'.heap[b]? =w.heap[b]?)->Z A' B' w'
theorem Oi.UH{Z:GZ}{A B A' B':Nat->Prop}{w w':World}(h:Oi Z A B w)(hA:∀b,b<w.heap.size->A b->¬Qx w b->A' b)(hB:∀b,B b->B' b)
 (hw:∀b,b<w.heap.size->A b->¬Qx w b->w'.heap[b]? =w.heap[b]?) (hb:∀b,B b->w'.heap[b]? =w.heap[b]?):Oi Z A' B' w':=fun A2 B2 w2 k1 k2 k3 k4=>by
 have lt:∀b,b<w.heap.size->A b->¬Qx w b->b<w'.heap.size/\¬Qx w' b:=fun b hb ha hd=>by
  have e:=hw b hb ha hd;refine⟨?_,fun⟨q,hq,hc⟩=>hd ⟨q,by rw[<-e];exact hq,hc⟩⟩;rw[a2S hb]at e;exact VJ e
 exact h A2 B2 w2 (fun b hb ha hd=>k1 b (lt b hb ha hd).1 (hA b hb ha hd) (lt b hb ha hd).2) (fun b hb=>k2 b (hB b hb))
  (fun b hb ha hd=>(k3 b (lt b hb ha hd).1 (hA b hb ha hd) (lt b hb ha hd).2).trans (hw b hb ha hd)) (fun b h=>(k4 b (hB b h)).trans (hb b h))
theorem Oi.mono{Z:GZ}{A B A' B':Nat->Prop}{w w':World}(h:Oi Z A B w)(hA:∀b,b<w.heap.size->A b->A' b)(hB:∀b,B b->B' b)
 (hw:∀b,b<w.heap.size->A b->w'.heap[b]? =w.heap[b]?) (hb:∀b,B b->w'.heap[b]? =w.heap[b]?):Oi Z A' B' w':=
 h.UH (fun b hb ha _=>hA b hb ha) hB (fun b hb ha _=>hw b hb ha) hb
theorem Oi.now{Z:GZ}{A B:Nat->Prop}{w:World}(h:Oi Z A B w):Z A B w:=h A B w (fun _ _ h _=>h) (fun _ h=>h) (fun _ _ _ _=>rfl) (fun _ _=>rfl)
def iY(A:Nat->Prop)(w:World)(sz:Nat)(xs:List (List IV))(b:Nat)(k:Nat×Nat):Prop:=
 ∃c e,w.heap[b]? =some (.cells c e (0,0))/\k.1+k.2=c.size/\xs.length*sz<=k.2∧
  ∀i j x,at2 xs i j=some x->YB A w x (c.getD (k.1+(i*sz+j)) undef)
def Ti(A:Nat->Prop)(w:World)(sz:Nat)(xs:List (List IV))(p:Option (Nat×(Nat×Nat)))(v:Value):Prop:=
 (∀x∈xs,x.length=sz)/\((p=none/\xs=[]/\v= .slice none 0 0)∨
  ∃b k cap a,p=some (b,k)/\v= .slice (some a) xs.length cap/\(0<cap->a=⟨b,k.1,none⟩)/\xs.length<=cap/\cap*sz<=k.2/\cap<2^63/\iY A w sz xs b k)
def Xx(A:Nat->Prop)(w:World)(sk:Sk)(g:List Value->Option (List IV))(es:Array MapEntry):Prop:=
 (∀e∈es.toList,Fits sk e)/\(∀e∈es.toList,∃c,g (X9 e.key)=some c)/\(es.toList.map fun e=>X9 e.key).Nodup∧
 ∀k c,g k=some c->∃e∈es.toList,X9 e.key=k/\e.val.cells.size=c.length/\∀i x,c[i]? =some x->YB A w x (e.val.cells.getD i undef)
def Xa(A:Nat->Prop)(ψ:Pl)(H:Hp)(w:World)(id:Nat):Ob->Prop
 | .box cs=>∃b c e,ψ id=some (b,(0,c.size))/\w.heap[b]? =some (.cells c e (0,0))/\c.size=cs.length∧
  ∀i x,cs[i]? =some x->ZK A ψ H w x (c.getD i undef)
 | .list sz xs=>(∀x∈xs,x.length=sz)/\((ψ id=none/\xs=[])∨
  ∃b k c e,ψ id=some (b,k)/\w.heap[b]? =some (.cells c e (0,0))/\k.1+k.2=c.size/\xs.length*sz<=k.2∧
   ∀i j x,at2 xs i j=some x->YB A w x (c.getD (k.1+(i*sz+j)) undef))
 | .map sk g=>∃b es clock,ψ id=some (b,(0,0))/\w.heap[b]? =some (.map es clock)/\WG es clock/\Xx A w sk g es
 | .WT sk g n kk=>∃b es clock,ψ id=some (b,(0,0))/\w.heap[b]? =some (.map es clock)/\WG es clock/\Xx A w sk g es/\∃e∈es.toList,(e.born:Int)=n/\X9 e.key=kk
 | .YU _ sz xs=>(∀x∈xs,x.length=sz)/\((ψ id=none/\xs=[])∨
  ∃b k c e,ψ id=some (b,k)/\w.heap[b]? =some (.cells c e (0,0))/\k.1+k.2=c.size/\xs.length*sz<=k.2∧
   ∀i j x,at2 xs i j=some x->YB A w x (c.getD (k.1+(i*sz+j)) undef))
 | .YJ sk sz g hole=>∃b es clock,∃pl:List Value->Option (Nat×(Nat×Nat)),ψ id=some (b,(0,0))/\w.heap[b]? =some (.map es clock)/\WG es clock∧
  (∀e∈es.toList,Fits sk e)/\sk.2.2=false/\(es.toList.map fun e=>X9 e.key).Nodup/\(∀e∈es.toList,hole=some (X9 e.key)\/∃xs,g (X9 e.key)=some xs)∧
  (∀k,hole=some k->g k=none/\∃e∈es.toList,X9 e.key=k)∧
  (∀k xs,g k=some xs->∃e∈es.toList,X9 e.key=k/\Ti A w sz xs (pl k) e.val)∧
  (∀k xs b' q,g k=some xs->pl k=some (b',q)->ψ.sub id b')∧
  (∀k xs k' xs' b' q q',g k=some xs->g k'=some xs'->pl k=some (b',q)->pl k'=some (b',q')->k=k')
 | .ZI sz xs hole=>(∀j,hole=some j->j<xs.length)/\∃b k c e,∃pl:Nat->Option (Nat×(Nat×Nat)),ψ id=some (b,k)/\w.heap[b]? =some (.cells c e (0,0))/\k.1+k.2=c.size/\xs.length<=k.2∧
  (∀i x,xs[i]? =some x->hole≠some i->Ti A w sz x (pl i) (c.getD (k.1+i) undef))∧
  (∀i x b' q,xs[i]? =some x->hole≠some i->pl i=some (b',q)->ψ.sub id b')∧
  (∀i x i' x' b' q q',xs[i]? =some x->hole≠some i->xs[i']? =some x'->hole≠some i'->pl i=some (b',q)->pl i'=some (b',q')->i=i')
 | .iter sk g left last=>∃b m since stamps YG,ψ id=some (b,(0,0))/\w.heap[b]? =some (.mapIter m since stamps YG)∧
  (
   (m=none/\left=[]/\last=none/\∀k,g k=none)∨
   ∃bm es,m=some bm/\A bm/\w.heap[bm]? =some (.map es since)/\YG=since/\WG es since/\Xx A w sk g es/\left.Nodup∧
    (∀e∈es.toList,X9 e.key∈left↔e.born∉stamps.toList)/\(∀k∈left,∃e∈es.toList,X9 e.key=k)∧
    (last=none\/∃e∈es.toList,∃seen:Array Nat,stamps=seen.push e.born/\last=some (X9 e.key)))
 | .gh Z vs cs=>ψ id=none/\Oi Z A (ψ.sub id) w/\vs.length=cs.length/\∀i x,cs[i]? =some x->ZK A ψ H w x (vs.getD i undef)
def pv(k:Nat)(A:Nat->Prop)(w:World)(ds:List Deferred):Prop:=ds.Nodup/\∀d∈ds,∃D,d={target:= .collected D,args:= #[]}/\k<=D/\A D/\w.heap[D]? =some (.deferred (some []))
theorem pv.mono{k:Nat}{A A':Nat->Prop}{w w':World}{ds:List Deferred}(h:pv k A w ds)(hA:∀b,b<w.heap.size->A b->A' b)(hw:∀b,b<w.heap.size->A b->w'.heap[b]? =w.heap[b]?):pv k A' w' ds:=⟨h.1,fun d hd=>by
 obtain⟨D,h1,h0,h2,h3⟩:=h.2 d hd;have hl:=VJ h3
 exact⟨D,h1,h0,hA D hl h2,by rw[hw D hl h2];exact h3⟩⟩
structure Z7 (E:En) (n:Nat) (ψ:Pl) (s:St) (a:Act) (w:World):Prop where
 size:a.tmps.size=n
 defers:pv E.w.heap.size (Im E ψ s.hp) w a.defers
 frame:∀t,ZK (Im E ψ s.hp) ψ s.hp w (s.get t) (a.tmps.getD t undef)
 YH:∀id o,look s.hp id=some o->Xa (Im E ψ s.hp) ψ s.hp w id o
 inj:∀id XP o o' b,look s.hp id=some o->look s.hp XP=some o'->Z2 ψ id b->Z2 ψ XP b->id=XP
 own:∀id o b,look s.hp id=some o->Z2 ψ id b->(o.org id∈E.ids/\Z2 E.ψ (o.org id) b)\/E.fresh b
 Y0:Uv ψ s.hp w
 par:∀id,id∈E.ids->ψ id=E.ψ id
 old:∀b,b<E.w.heap.size->¬E.mp b->w.heap[b]? =E.w.heap[b]?
 grow:E.w.heap.size<=w.heap.size
 same:w.os=E.w.os/\w.tape=E.w.tape/\w.output=E.w.output/\E.w.drawn<=w.drawn
def Un(E:En)(n:Nat)(s:St)(a:Act)(w:World):Prop:=∃ψ,Z7 E n ψ s a w
structure Ext (w w':World):Prop where
 block:∀b,b<w.heap.size->w'.heap[b]? =w.heap[b]?
 size:w.heap.size<=w'.heap.size
 same:w'.os=w.os/\w'.tape=w.tape/\w'.output=w.output/\w.drawn<=w'.drawn
theorem Ext.refl(w:World):Ext w w:=⟨fun _ _=>rfl,a8F _,rfl,rfl,rfl,a8F _⟩
theorem Ext.trans{a b c:World}(h:Ext a b)(k:Ext b c):Ext a c:=
 ⟨fun i hi=>(k.block i (a4N hi h.size)).trans (h.block i hi),a9L h.size k.size,
  k.same.1.trans h.same.1,k.same.2.1.trans h.same.2.1,k.same.2.2.1.trans h.same.2.2.1,a9L h.same.2.2.2 k.same.2.2.2⟩
theorem Ext.cell{w u:World}(h:Ext w u){a:Addr}{v:Value}(hc:w.cell? a=some v):u.cell? a=some v:=by
 have hb:=World.block_lt_of_cell? w _ hc
 have e:u.cell? a=w.cell? a:=by simp only[World.cell?,h.block _ hb]
 rw[e];exact hc
theorem Ext.Gk{w u:World}(h:Ext w u){a:Addr}{o:Option Value}(hc:w.cell? a=o)(hs:o.isSome=true):u.cell? a=o:=by
 obtain⟨v,rfl⟩:=Option.isSome_iff_exists.1 hs;exact h.cell hc
theorem Ext.heap{w u:World}(h:Ext w u){b:Nat}{o:Obj}(hb:w.heap[b]? =some o):u.heap[b]? =some o:=by
 rw[h.block b (VJ hb)];exact hb
theorem Ext.alloc(w:World)(o:Obj):Ext w (w.alloc o):=by
 refine⟨fun b hb=>?_,by simp,rfl,rfl,rfl,a8F _⟩
 show(w.heap.push o)[b]? =_
 rw[Array.getElem?_push,if_neg (by omega)]
theorem Ext.drew(w:World):Ext w w.drew:=⟨fun _ _=>rfl,a8F _,rfl,rfl,rfl,Nat.le_succ _⟩
theorem c5H(a:Act)(d:Nat)(v:Value)(t:Nat)(hd:d<a.tmps.size):
 (a.put (some d) v).tmps.getD t undef=if d=t then v else a.tmps.getD t undef:=by
 simp only[Act.put,a4E,Array.getElem?_setIfInBounds];split
 ·subst_vars;simp
 ·rfl
theorem Z7.set{E:En}{n:Nat}{ψ:Pl}{s:St}{a:Act}{w:World}(h:Z7 E n ψ s a w){d:Nat}(hd:d<n){x:AV}{v:Value}
 (hx:ZK (Im E ψ s.hp) ψ s.hp w x v):Z7 E n ψ (s.set d x) (a.put (some d) v) w:=by
 refine {h with size:=by simp[Act.put,h.size],defers:=h.defers,frame:=fun t=>?_};rw[St.Xd,c5H a d v t (by rw[h.size];exact hd)];split
 ·exact hx
 ·exact h.frame t
theorem Z7.put{E:En}{n:Nat}{ψ:Pl}{s:St}{a:Act}{w:World}(h:Z7 E n ψ s a w){d:Option Nat}(hd:∀i,d=some i->i<n){x:AV}{v:Value}
 (hx:ZK (Im E ψ s.hp) ψ s.hp w x v):Z7 E n ψ (s.put d x) (a.put d v) w:=by
 cases d with
 |none=>exact h
 |some d=>exact h.set (hd d rfl) hx
theorem iY.mono{A A':Nat->Prop}{w w':World}{sz:Nat}{xs:List (List IV)}{b:Nat}{k:Nat×Nat}(h:iY A w sz xs b k)
 (hA:∀b,b<w.heap.size->A b->A' b) (hw:∀b,b<w.heap.size->A b->w'.heap[b]? =w.heap[b]?) (hb:w'.heap[b]? =w.heap[b]?):iY A' w' sz xs b k:=by
 obtain⟨c,e,h1,h2,h3,h4⟩:=h;exact⟨c,e,by rw[hb];exact h1,h2,h3,fun i j x hx=>(h4 i j x hx).mono hA hw⟩
theorem Ti.mono{A A':Nat->Prop}{w w':World}{sz:Nat}{xs:List (List IV)}{p:Option (Nat×(Nat×Nat))}{v:Value}(h:Ti A w sz xs p v)
 (hA:∀b,b<w.heap.size->A b->A' b) (hw:∀b,b<w.heap.size->A b->w'.heap[b]? =w.heap[b]?) (hb:∀b q,p=some (b,q)->w'.heap[b]? =w.heap[b]?):Ti A' w' sz xs p v:=by
 obtain⟨h0,h⟩:=h;refine⟨h0,?_⟩
 rcases h with h|⟨b,k,cap,a,h1,h2,h3,h4,h5,h6,h7⟩
 ·exact .inl h
 ·exact .inr ⟨b,k,cap,a,h1,h2,h3,h4,h5,h6,h7.mono hA hw (hb b k h1)⟩
theorem Xx.mono{A A':Nat->Prop}{w w':World}{sk:Sk}{g:List Value->Option (List IV)}{es:Array MapEntry}(h:Xx A w sk g es)
 (hA:∀b,b<w.heap.size->A b->A' b) (hw:∀b,b<w.heap.size->A b->w'.heap[b]? =w.heap[b]?):Xx A' w' sk g es:=by
 obtain⟨m1,m2,m3,m4⟩:=h;refine⟨m1,m2,m3,fun k c hg=>?_⟩;obtain⟨e,he,h5,h6,h7⟩:=m4 k c hg;exact⟨e,he,h5,h6,fun i x hx=>(h7 i x hx).mono hA hw⟩
theorem Xa.move{A A':Nat->Prop}{ψ ZF:Pl}{H H':Hp}{w w':World}{id:Nat}{o:Ob}(h:Xa A ψ H w id o)(NY:(∀cs,o≠ .box cs)/\∀Z vs cs,o≠ .gh Z vs cs)
 (hA:∀b,b<w.heap.size->A b->A' b) (hw:∀b,b<w.heap.size->A b->w'.heap[b]? =w.heap[b]?)
 (Wn:ZF id=ψ id/\∀b,ψ.sub id b->ZF.sub id b) (hb:∀b,Z2 ψ id b->w'.heap[b]? =w.heap[b]?):Xa A' ZF H' w' id o:=by
 obtain⟨Wn,hs⟩:=Wn
 have T4:∀{b k},ψ id=some (b,k)->w'.heap[b]? =w.heap[b]? :=fun e=>hb _ (.inl ⟨_,e⟩)
 have rT:∀{b},ψ.sub id b->w'.heap[b]? =w.heap[b]? :=fun e=>hb _ (.inr e)
 cases o with
 |box cs=>exact absurd rfl (NY.1 cs)
 |gh Z vs cs=>exact absurd rfl (NY.2 Z vs cs)
 |list sz xs=>
  obtain⟨h0,h⟩:=h;refine⟨h0,?_⟩
  rcases h with⟨h1,h2⟩|⟨b,k,c,e,h1,h2,h3,Te,h4⟩
  ·exact .inl ⟨by rw[Wn];exact h1,h2⟩
  ·exact .inr ⟨b,k,c,e,by rw[Wn];exact h1,by rw[T4 h1];exact h2,h3,Te,fun i j x hx=>(h4 i j x hx).mono hA hw⟩
 |map sk g=>
  obtain⟨b,es,clock,h1,h2,h3,m⟩:=h;exact⟨b,es,clock,by rw[Wn];exact h1,by rw[T4 h1];exact h2,h3,m.mono hA hw⟩
 |WT sk g n kk=>
  obtain⟨b,es,clock,h1,h2,h3,m,h4⟩:=h;exact⟨b,es,clock,by rw[Wn];exact h1,by rw[T4 h1];exact h2,h3,m.mono hA hw,h4⟩
 |YU org sz xs=>
  obtain⟨h0,h⟩:=h;refine⟨h0,?_⟩
  rcases h with⟨h1,h2⟩|⟨b,k,c,e,h1,h2,h3,Te,h4⟩
  ·exact .inl ⟨by rw[Wn];exact h1,h2⟩
  ·exact .inr ⟨b,k,c,e,by rw[Wn];exact h1,by rw[T4 h1];exact h2,h3,Te,fun i j x hx=>(h4 i j x hx).mono hA hw⟩
 |YJ sk sz g hole=>
  obtain⟨b,es,clock,pl,h1,h2,h3,h4,h5,h6,h7,h8,h9,U0,TD⟩:=h;refine⟨b,es,clock,pl,by rw[Wn];exact h1,by rw[T4 h1];exact h2,h3,h4,h5,h6,h7,h8,fun k xs hg=>?_,fun k xs b' q g1 g2=>hs _ (U0 k xs b' q g1 g2),TD⟩
  obtain⟨e,g1,g2,g3⟩:=h9 k xs hg;exact⟨e,g1,g2,g3.mono hA hw fun b' q hq=>rT (U0 k xs b' q hg hq)⟩
 |ZI sz xs hole=>
  obtain⟨h0,b,k,c,e,pl,h1,h2,h3,h4,h5,h6,h7⟩:=h
  exact⟨h0,b,k,c,e,pl,by rw[Wn];exact h1,by rw[T4 h1];exact h2,h3,h4,fun i x g1 g2=>(h5 i x g1 g2).mono hA hw fun b' q hq=>rT (h6 i x b' q g1 g2 hq),
   fun i x b' q g1 g2 g3=>hs _ (h6 i x b' q g1 g2 g3),h7⟩
 |iter sk g left last=>
  obtain⟨b,m,since,stamps,YG,h1,h2,h3⟩:=h;refine⟨b,m,since,stamps,YG,by rw[Wn];exact h1,by rw[T4 h1];exact h2,?_⟩
  rcases h3 with h3|⟨bm,es,g1,g2,g3,g4,g5,g6,g7⟩
  ·exact .inl h3
  ·have ZV:=VJ g3;exact .inr ⟨bm,es,g1,hA bm ZV g2,by rw[hw bm ZV g2];exact g3,g4,g5,g6.mono hA hw,g7⟩
theorem Xa.mono{A A':Nat->Prop}{ψ ZF:Pl}{H H':Hp}{w w':World}{id:Nat}{o:Ob}(h:Xa A ψ H w id o)
 (hA:∀b,b<w.heap.size->A b->A' b) (hw:∀b,b<w.heap.size->A b->w'.heap[b]? =w.heap[b]?) (hk:Vt ψ ZF H H')
 (Wn:ZF id=ψ id/\∀b,ψ.sub id b->ZF.sub id b) (hb:∀b,Z2 ψ id b->w'.heap[b]? =w.heap[b]?):Xa A' ZF H' w' id o:=by
 by_cases NY:∃cs,o= .box cs
 ·obtain⟨cs,rfl⟩:=NY;obtain⟨b,c,e,h1,h2,h3,h4⟩:=h;exact⟨b,c,e,by rw[Wn.1];exact h1,by rw[hb _ (.inl ⟨_,h1⟩)];exact h2,h3,fun i x hx=>(h4 i x hx).mono hA hw hk⟩
 ·by_cases hgh:∃Z vs cs,o= .gh Z vs cs
  ·obtain⟨Z,vs,cs,rfl⟩:=hgh;obtain⟨h1,h2,h3,h4⟩:=h;exact⟨by rw[Wn.1];exact h1,h2.mono hA (fun b hb=>Wn.2 b hb) hw (fun b h=>hb b (.inr h)),h3,fun i x hx=>(h4 i x hx).mono hA hw hk⟩
  ·exact h.move ⟨fun cs e=>NY ⟨cs,e⟩,fun Z vs cs e=>hgh ⟨Z,vs,cs,e⟩⟩ hA hw Wn hb
theorem Xa.lt{A:Nat->Prop}{ψ:Pl}{H:Hp}{w:World}{id:Nat}{o:Ob}(h:Xa A ψ H w id o){b:Nat}{k:Nat×Nat}(hb:ψ id=some (b,k)):b<w.heap.size:=by
 cases o with
 |box cs=>obtain⟨b',c,e,h1,h2,_⟩:=h;rw[h1]at hb;cases hb;exact VJ h2
 |list sz xs=>
  rcases h.2 with⟨h1,_⟩|⟨b',k',c,e,h1,h2,_⟩
  ·rw[h1]at hb;cases hb
  ·rw[h1]at hb;cases hb;exact VJ h2
 |map sk g=>obtain⟨b',es,cl,h1,h2,_⟩:=h;rw[h1]at hb;cases hb;exact VJ h2
 |WT sk g n kk=>obtain⟨b',es,cl,h1,h2,_⟩:=h;rw[h1]at hb;cases hb;exact VJ h2
 |YU org sz xs=>
  rcases h.2 with⟨h1,_⟩|⟨b',k',c,e,h1,h2,_⟩
  ·rw[h1]at hb;cases hb
  ·rw[h1]at hb;cases hb;exact VJ h2
 |YJ sk sz g hole=>obtain⟨b',es,cl,pl,h1,h2,_⟩:=h;rw[h1]at hb;cases hb;exact VJ h2
 |ZI sz xs hole=>obtain⟨_,b',k',c,e,pl,h1,h2,_⟩:=h;rw[h1]at hb;cases hb;exact VJ h2
 |iter sk g left last=>obtain⟨b',m,si,st,la,h1,h2,_⟩:=h;rw[h1]at hb;cases hb;exact VJ h2
 |gh Z vs cs=>obtain⟨h1,_⟩:=h;rw[h1]at hb;cases hb
theorem Z7.lt{E:En}{n:Nat}{ψ:Pl}{s:St}{a:Act}{w:World}(h:Z7 E n ψ s a w){id b:Nat}{o:Ob}(ho:look s.hp id=some o)(hb:Z2 ψ id b):b<w.heap.size:=by
 rcases hb with⟨k,hb⟩|hb
 ·exact(h.YH id o ho).lt hb
 ·exact(h.Y0 id o b ho hb).2.1
theorem Uv.ext{ψ:Pl}{H:Hp}{w w':World}(h:Uv ψ H w)(hs:w.heap.size<=w'.heap.size):Uv ψ H w':=fun id o b ho hb=>by
 obtain⟨h1,h2,h3⟩:=h id o b ho hb;exact⟨h1,a4N h2 hs,h3⟩
theorem Z7.ext{E:En}{n:Nat}{ψ:Pl}{s:St}{a:Act}{w w':World}(h:Z7 E n ψ s a w)(hx:Ext w w'):Z7 E n ψ s a w':=by
 have hA:∀b,b<w.heap.size->Im E ψ s.hp b->Im E ψ s.hp b:=fun _ _ h=>h
 have hw:∀b,b<w.heap.size->Im E ψ s.hp b->w'.heap[b]? =w.heap[b]? :=fun b hb _=>hx.block b hb
 refine {h with defers:=h.defers.mono hA hw,frame:=fun t=>(h.frame t).mono hA hw (Vt.refl _ _),YH:=fun id o ho=>?_,Y0:=h.Y0.ext hx.size,old:=fun b hb hm=>?_,grow:=?_,same:=?_}
 ·exact(h.YH id o ho).mono hA hw (Vt.refl _ _) ⟨rfl,fun _ h=>h⟩ fun b hb=>hx.block b (h.lt ho hb)
 ·rw[hx.block b (a4N hb h.grow)];exact h.old b hb hm
 ·exact a9L h.grow hx.size
 ·exact⟨hx.same.1.trans h.same.1,hx.same.2.1.trans h.same.2.1,hx.same.2.2.1.trans h.same.2.2.1,a9L h.same.2.2.2 hx.same.2.2.2⟩
/-! ### References to an object are let go. -/
def Z3.of(p:Nat->Bool):Z3->Bool
 | .ptr id _=>p id
 | .val _=>false
def AV.kc(p:Nat->Bool):AV->AV
 | .sl id sz lo len=>if p id then .junk else .sl id sz lo len
 | .ptr id off=>if p id then .junk else .ptr id off
 | .ep id sz i off=>if p id then .junk else .ep id sz i off
 | .mpr id=>if p id then .junk else .mpr id
 | .fn f a b=>if a.any (Z3.of p)||b.any (Z3.of p)then .junk else .fn f a b
 | .iv x=> .iv x
 | .nil sz=> .nil sz
 | .un=> .un
 | .agg _=> .junk
 | .Zp _=> .junk
 | .junk=> .junk
def AV.Xj:AV->Option IV
 | .iv x=>some x
 | .nil sz=>some (.Z6 sz [])
 | _=>none
def SM:List AV->Option (List IV)
 | []=>some []
 |x::r=>match x.Xj with
  |some y=>(SM r).map fun l=>y::l
  |none=>none
def Z3.fc(id:Nat)(o:Ob):Z3->Z3
 | .ptr j off=>if j=id then match o with
  | .box cs=>match SM cs with
   |some l=> .val (.pt (l.drop off))
   |none=> .ptr j off
  | _=> .ptr j off
  else .ptr j off
 | .val x=> .val x
def AV.fc(id:Nat)(o:Ob):AV->AV
 | .sl j sz lo len=>if j=id then match o with
  | .list _ xs=> .iv (.Z6 sz ((xs.drop lo).take len))
  | .ZI ZB xs none=> .iv (.Z6 1 (((xs.map fun x=>[IV.Z6 ZB x]).drop lo).take len))
  | _=> .junk
  else .sl j sz lo len
 | .ep j sz i off=>if j=id then match o with
  | .list _ xs=> .iv (.pt ((xs.getD i []).drop off))
  | _=> .junk
  else .ep j sz i off
 | .mpr j=>if j=id then match o with
  | .map sk g=> .iv (.mp sk g)
  | .YJ sk sz g none=> .iv (.mp sk fun k=>(g k).map fun xs=>[IV.Z6 sz xs])
  | _=> .junk
  else .mpr j
 | .ptr j off=>if j=id then match o with
  | .box cs=>match SM cs with
   |some l=> .iv (.pt (l.drop off))
   |none=> .junk
  | _=> .junk
  else .ptr j off
 | .fn f a b=> .fn f (a.map (Z3.fc id o)) (b.map (Z3.fc id o))
 |x=>x
def AV.Jy(f:AV->AV):AV->AV
 | .agg cs=> .agg (cs.map f)
 |x=>f x
def AV.ZQ(f:AV->AV):AV->AV
 | .Zp vs=> .Zp (vs.map (AV.Jy f))
 | .agg cs=> .agg (cs.map f)
 |x=>f x
def Ob.ZQ(f:AV->AV):Ob->Ob
 | .box cs=> .box (cs.map f)
 | .gh Z vs cs=> .gh Z vs (cs.map (AV.ZQ f))
 |o=>o
def St.ZQ(f:AV->AV)(s:St):St:=⟨s.fr.map fun(t,x)=>(t,x.ZQ f),s.hp.map fun(id,o)=>(id,o.ZQ f)⟩
def St.drop(id:Nat)(s:St):St:=match look s.hp id with
 |none=>s
 |some o=>{s.ZQ (fun x=>(x.fc id o).kc (· ==id))with hp:=(s.ZQ fun x=>(x.fc id o).kc (· ==id)).hp.filter (·.1 != id)}
theorem c7H{α β:Type}(f:α->β)(l:List (Nat×α))(k:Nat):look (l.map fun(t,x)=>(t,f x)) k=(look l k).map f:=by
 induction l with
 |nil=>rfl
 |cons p l ih=>obtain⟨j,x⟩:=p;simp only[a0G,look];split<;>simp[ih]
theorem Iy{α:Type}(l:List (Nat×α))(id k:Nat):look (l.filter (·.1 != id)) k=if k=id then none else look l k:=by
 induction l with
 |nil=>simp[look]
 |cons p l ih=>
  obtain⟨j,x⟩:=p
  by_cases hj:j=id
  ·subst hj;rw[List.filter_cons_of_neg (by simp),ih];simp only[look]
   by_cases hk:k=j
   ·simp[hk]
   ·simp[hk,Ne.symm hk]
  ·rw[List.filter_cons_of_pos (by simpa using hj)];simp only[look,ih]
   by_cases hk:j=k
   ·subst hk;simp[hj]
   ·simp[hk]
def c9H(A A':Nat->Prop)(ψ ZF:Pl)(H H':Hp)(w w':World)(f:AV->AV):Prop:=∀x v,ZK A ψ H w x v->(∀cs,x≠ .agg cs)->(∀cs,x≠ .Zp cs)->ZK A' ZF H' w' (f x) v
theorem ZK.ZQ{A A':Nat->Prop}{ψ ZF:Pl}{H H':Hp}{w w':World}{f:AV->AV}(hf:c9H A A' ψ ZF H H' w w' f)
 (M4:∀cs,f (.agg cs)= .junk) (NW:∀cs,f (.Zp cs)= .junk) {x:AV} {v:Value} (h:ZK A ψ H w x v):ZK A' ZF H' w' (x.ZQ f) v:=by
 have hc:∀{x v},ZK A ψ H w x v->ZK A' ZF H' w' (f x) v:=by
  intro x v h
  cases x with
  |agg cs=>rw[M4];exact .junk v
  |Zp cs=>rw[NW];exact .junk v
  | _=>exact hf _ _ h (by simp) (by simp)
 have h1:∀{x v},ZK A ψ H w x v->ZK A' ZF H' w' (x.Jy f) v:=by
  intro x v h
  cases h with
  |agg cs vs hl h=>
   refine .agg _ _ (by simpa using hl) fun i c hi=>?_
   rw[a0C]at hi
   cases Wx:cs[i]? with
   |none=>rw[Wx]at hi;cases hi
   |some c0=>rw[Wx]at hi;cases hi;exact hc (h i c0 Wx)
  |Zp cs vs hl h=>simp only[AV.Jy,NW];exact .junk _
  |iv x v h=>exact hc (.iv x v h)
  |nil sz=>exact hc (.nil sz)
  |U4 id sz o n ho he hb=>exact hc (.U4 id sz o n ho he hb)
  |sl id sz lo len b k cap a o n ho he hx hb ha UO hk hm=>exact hc (.sl id sz lo len b k cap a o n ho he hx hb ha UO hk hm)
  |ptr id off b k o ho hb=>exact hc (.ptr id off b k o ho hb)
  |ep id sz i off b k o n ho he hi hb=>exact hc (.ep id sz i off b k o n ho he hi hb)
  |mpr id b k o ho hb=>exact hc (.mpr id b k o ho hb)
  |fn g first caps vf vc hf D0 h1 h2=>exact hc (.fn g first caps vf vc hf D0 h1 h2)
  |un=>exact hc .un
  |junk v=>exact hc (.junk v)
 cases h with
 |Zp cs vs hl h=>
  refine .Zp _ _ (by simpa using hl) fun i c hi=>?_
  rw[a0C]at hi
  cases Wx:cs[i]? with
  |none=>rw[Wx]at hi;cases hi
  |some c0=>rw[Wx]at hi;cases hi;exact h1 (h i c0 Wx)
 |agg cs vs hl h=>exact h1 (.agg cs vs hl h)
 |iv x v h=>exact hc (.iv x v h)
 |nil sz=>exact hc (.nil sz)
 |U4 id sz o n ho he hb=>exact hc (.U4 id sz o n ho he hb)
 |sl id sz lo len b k cap a o n ho he hx hb ha UO hk hm=>exact hc (.sl id sz lo len b k cap a o n ho he hx hb ha UO hk hm)
 |ptr id off b k o ho hb=>exact hc (.ptr id off b k o ho hb)
 |ep id sz i off b k o n ho he hi hb=>exact hc (.ep id sz i off b k o n ho he hi hb)
 |mpr id b k o ho hb=>exact hc (.mpr id b k o ho hb)
 |fn g first caps vf vc hf D0 h1 h2=>exact hc (.fn g first caps vf vc hf D0 h1 h2)
 |un=>exact hc .un
 |junk v=>exact hc (.junk v)
def c0I(p:Nat->Bool)(ψ ZF:Pl)(H H':Hp):Prop:=∀id o,p id=false->look H id=some o->(∃o',look H' id=some o'/\o.le o')/\ZF id=ψ id
theorem c1I{A A':Nat->Prop}{ψ ZF:Pl}{H H':Hp}{w w':World}{p:Nat->Bool}(hA:∀b,b<w.heap.size->A b->A' b)
 (hw:∀b,b<w.heap.size->A b->w'.heap[b]? =w.heap[b]?) (hk:c0I p ψ ZF H H'):c9H A A' ψ ZF H H' w w' (AV.kc p):=by
 intro x v h _ _
 have Gj:∀{id sz n o},p id=false->look H id=some o->o.dim=some (sz,n)->∃o' n',look H' id=some o'/\o'.dim=some (sz,n')/\n<=n':=by
  intro id sz n o hp ho he;obtain⟨⟨o',h1,h2⟩,_⟩:=hk id _ hp ho;obtain⟨n',h3,h4⟩:=h2 sz n he;exact⟨o',n',h1,h3,h4⟩
 have VA:∀{c:Z3} {v:Value},c.of p=false->Xg A ψ H w c v->Xg A' ZF H' w' c v:=by
  intro c v hp h
  cases h with
  |ptr id off b k o ho hb=>
   obtain⟨⟨o',h1,_⟩,h2⟩:=hk id o hp ho;exact .ptr id off b k o' h1 (by rw[h2];exact hb)
  |val x v h1=>exact .val x v (h1.mono hA hw)
 cases h with
 |iv x v h=>exact .iv x v (h.mono hA hw)
 |nil sz=>exact .nil sz
 |U4 id sz o n ho he hb=>
  simp only[AV.kc];split
  ·exact .junk _
  ·rename_i hp
   have hp:p id=false:=by simpa using hp
   obtain⟨o',n',h1,h2,_⟩:=Gj hp ho he;exact .U4 id sz o' n' h1 h2 (by rw[(hk id _ hp ho).2];exact hb)
 |sl id sz lo len b k cap a o n ho he hx hb ha UO R7 hm=>
  simp only[AV.kc];split
  ·exact .junk _
  ·rename_i hp
   have hp:p id=false:=by simpa using hp
   obtain⟨o',n',h1,h2,h3⟩:=Gj hp ho he;exact .sl id sz lo len b k cap a o' n' h1 h2 (a9L hx h3) (by rw[(hk id _ hp ho).2];exact hb) ha UO R7 hm
 |ptr id off b k o ho hb=>
  simp only[AV.kc];split
  ·exact .junk _
  ·rename_i hp
   have hp:p id=false:=by simpa using hp
   obtain⟨⟨o',h1,_⟩,h2⟩:=hk id o hp ho;exact .ptr id off b k o' h1 (by rw[h2];exact hb)
 |ep id sz i off b k o n ho he hi hb=>
  simp only[AV.kc];split
  ·exact .junk _
  ·rename_i hp
   have hp:p id=false:=by simpa using hp
   obtain⟨o',n',h1,h2,h3⟩:=Gj hp ho he;exact .ep id sz i off b k o' n' h1 h2 (a4N hi h3) (by rw[(hk id _ hp ho).2];exact hb)
 |mpr id b k o ho hb=>
  simp only[AV.kc];split
  ·exact .junk _
  ·rename_i hp
   have hp:p id=false:=by simpa using hp
   obtain⟨⟨o',h1,_⟩,h2⟩:=hk id o hp ho;exact .mpr id b k o' h1 (by rw[h2];exact hb)
 |fn g first caps vf vc hf hc h1 h2=>
  simp only[AV.kc];split
  ·exact .junk _
  ·rename_i hp;simp only[b6L,b4o,not_or,not_exists,not_and,c1h]at hp;exact .fn g first caps vf vc hf hc (fun i c h=>VA (hp.1 c (a8y h)) (h1 i c h)) (fun i c h=>VA (hp.2 c (a8y h)) (h2 i c h))
 |agg cs vs hl h=>exact .junk _
 |Zp cs vs hl h=>exact .junk _
 |un=>exact .un
 |junk v=>exact .junk _
section
variable{E:En}{n:Nat}{ψ:Pl}{s:St}{a:Act}{w:World}
theorem St.T2(f:AV->AV)(hf:f .junk= .junk)(t:Nat):(s.ZQ f).get t=(s.get t).ZQ f:=by
 simp only[St.get,St.ZQ];rw[c7H (AV.ZQ f)]
 cases look s.fr t<;>simp[AV.ZQ,hf]
theorem Ir(f:AV->AV)(k:Nat):look (s.ZQ f).hp k=(look s.hp k).map (Ob.ZQ f):=by
 simp only[St.ZQ];rw[c7H (Ob.ZQ f)]
theorem d9B(f:AV->AV)(Z:GZ)(vs:List Value)(cs:List AV):(Ob.gh Z vs cs).ZQ f= .gh Z vs (cs.map (AV.ZQ f)):=rfl
theorem Ob.FK(f:AV->AV)(o:Ob):(o.ZQ f).dim=o.dim:=by cases o<;>rfl
theorem Ob.T1(f:AV->AV)(o:Ob)(id:Nat):(o.ZQ f).org id=o.org id:=by cases o<;>rfl
theorem Ob.VU(f:AV->AV)(o:Ob):(o.ZQ f).multi=o.multi:=by cases o<;>rfl
theorem Ob.SA(f:AV->AV)(o:Ob):o.le (o.ZQ f):=fun _ n h=>⟨n,by rw[Ob.FK];exact h,a8F _⟩
theorem d0C{α:Type}(xs:List (List α))(lo len i j:Nat)(x:α)(h:at2 ((xs.drop lo).take len) i j=some x):at2 xs (lo+i) j=some x:=by
 simp only[at2,a5N,a9J]at h⊢;split at h
 ·exact h
 ·cases h
theorem JO{α:Type}{xs:List (List α)}{i j:Nat}{x:α}(h:at2 xs i j=some x):∃r,xs[i]? =some r/\r[j]? =some x:=by
 simp only[at2]at h
 cases hr:xs[i]? with
 |none=>rw[hr]at h;cases h
 |some r=>rw[hr]at h;exact⟨r,rfl,h⟩
theorem qE{α:Type}{xs:List (List α)}{i j:Nat}{r:List α}{x:α}(h1:xs[i]? =some r)(h2:r[j]? =some x):at2 xs i j=some x:=by
 simp[at2,h1,h2]
theorem d3C{w:World}{b:Nat}{c:Array Value}{e:TypeId}{f:Nat×Nat}(h:w.heap[b]? =some (.cells c e f))(o:Nat):w.cell? ⟨b,o,none⟩=c[o]? :=by
 simp[World.cell?,h]
theorem IA{w:World}{b:Nat}{c:Array Value}{e:TypeId}{f:Nat×Nat}(h:w.heap[b]? =some (.cells c e f)){o:Nat}(ho:o<c.size):
 w.cell? ⟨b,o,none⟩=some (c.getD o undef):=by
 rw[d3C h];simp[ho]
theorem d5C{A A':Nat->Prop}{H:Hp}{id sz:Nat}{xs:List (List IV)}(h:Xa A ψ H w id (.list sz xs))(hA:∀b,b<w.heap.size->A b->A' b)
 (Yq:∀b k,ψ id=some (b,k)->A' b) {lo len cap:Nat} {a:Addr} {b:Nat} {k:Nat×Nat} (hb:ψ id=some (b,k)) (ha:0<cap->a=⟨b,k.1+lo*sz,none⟩) (UO:len<=cap)
 (hx:lo+len<=xs.length):YB A' w (.Z6 sz ((xs.drop lo).take len)) (.slice (some a) len cap):=by
 obtain⟨hs,h⟩:=h
 rcases h with⟨h1,_⟩|⟨b',k',c,e,h1,h2,Te,h3,h4⟩
 ·rw[h1]at hb;cases hb
 rw[h1]at hb;cases hb
 have hlen:((xs.drop lo).take len).length=len:=by simp;omega
 have key:=YB.Z6 (A:=A') (w:=w) sz ((xs.drop lo).take len) b (k.1+lo*sz) cap a (fun i j=>c.getD (k.1+((lo+i)*sz+j)) undef)
  (fun ZS=>ha (by
   rcases b5j cap with h0|h0
   ·exact absurd (a8R (by omega)) ZS
   ·exact h0))
  (fun x hx=>hs x (b3M (b4j hx))) (by omega)
  (fun i j x Xo=>by
   refine⟨Yq _ _ h1,?_⟩;have VE:=d0C _ _ _ _ _ _ Xo;obtain⟨r,hr,hj⟩:=JO VE;have hi:lo+i<xs.length:=(a7y.1 hr).1
   have hj':j<sz:=by rw[<-hs r (a8y hr)];exact(a7y.1 hj).1
   have hm:(lo+i+1)*sz<=xs.length*sz:=a5E sz (by omega);have e1:(lo+i)*sz=lo*sz+i*sz:=a8M _ _ _
   have e2:(lo+i+1)*sz=(lo+i)*sz+sz:=by rw[a8M];omega
   rw[show k.1+lo*sz+(i*sz+j)=k.1+((lo+i)*sz+j)from by omega]
   exact IA h2 (by omega))
  (fun i j x Xo=>(h4 _ _ _ (d0C _ _ _ _ _ _ Xo)).mono hA (fun _ _ _=>rfl))
 rw[hlen]at key;exact key
theorem d6C{A A':Nat->Prop}{H:Hp}{id sz:Nat}{xs:List (List IV)}(h:Xa A ψ H w id (.list sz xs))(hA:∀b,b<w.heap.size->A b->A' b)
 (Yq:∀b k,ψ id=some (b,k)->A' b) {i off:Nat} {b:Nat} {k:Nat×Nat} (hb:ψ id=some (b,k)) (hi:i<xs.length):
 YB A' w (.pt ((xs.getD i []).drop off)) (.pointer (some ⟨b,k.1+(i*sz+off),none⟩)):=by
 obtain⟨hs,h⟩:=h
 rcases h with⟨h1,_⟩|⟨b',k',c,e,h1,h2,Te,h3,h4⟩
 ·rw[h1]at hb;cases hb
 rw[h1]at hb;cases hb;have hr:xs[i]? =some xs[i]:=a3I hi
 have hg:xs.getD i []=xs[i]:=by simp[a7V,hr]
 rw[hg];have Yd:=hs xs[i] (d5t hi);refine .pt _ b (k.1+(i*sz+off)) (fun j=>c.getD (k.1+(i*sz+(off+j))) undef) (fun j x hj=>?_) (fun j x hj=>?_)
 ·rw[a9J]at hj;refine⟨Yq _ _ h1,?_⟩
  have hj':off+j<sz:=by rw[<-Yd];exact(a7y.1 hj).1
  have hm:(i+1)*sz<=xs.length*sz:=a5E sz (by omega)
  have e2:(i+1)*sz=i*sz+sz:=by rw[a8M];omega
  rw[show k.1+(i*sz+off)+j=k.1+(i*sz+(off+j))from by omega];exact IA h2 (by omega)
 ·rw[a9J]at hj;exact(h4 i (off+j) x (qE hr hj)).mono hA (fun _ _ _=>rfl)
theorem d7C{c:Array Value}{i:Nat}(h:i<c.size):c[i]? =some (c.getD i undef):=by
 rw[a2S h];simp[a4E,h]
theorem d8C{A A':Nat->Prop}{H:Hp}{x:AV}{v:Value}{y:IV}(h:ZK A ψ H w x v)(hx:x.Xj=some y)(hA:∀b,b<w.heap.size->A b->A' b):YB A' w y v:=by
 unfold AV.Xj at hx;split at hx
 ·cases hx;cases h with|iv _ _ h=>exact h.mono hA (fun _ _ _=>rfl)
 ·cases hx;cases h;exact .Wj _
 ·cases hx
theorem d9C:∀{cs:List AV} {l:List IV},SM cs=some l->l.length=cs.length/\∀(i:Nat) (y:IV),l[i]? =some y->∃x:AV,cs[i]? =some x/\x.Xj=some y
 | [],l,h=>by simp only[SM,a5y]at h;subst h;simp
 |x::r,l,h=>by
  simp only[SM]at h;split at h
  ·rename_i y hy
   cases hr:SM r with
   |none=>rw[hr]at h;cases h
   |some l'=>
    rw[hr]at h;simp only[a4G,a5y]at h;subst h;obtain⟨g1,g2⟩:=d9C hr;refine⟨by simp[g1],fun i z hz=>?_⟩
    cases i with
    |zero=>simp only[a9E,a5y]at hz;subst hz;exact⟨x,rfl,hy⟩
    |succ i=>simpa using g2 i z (by simpa using hz)
  ·cases h
theorem d0D{A A':Nat->Prop}{H:Hp}{id:Nat}{cs:List AV}{l:List IV}(h:Xa A ψ H w id (.box cs))(hl:SM cs=some l)(hA:∀b,b<w.heap.size->A b->A' b)
 (Yq:∀b k,ψ id=some (b,k)->A' b) {off b:Nat} {k:Nat×Nat} (hb:ψ id=some (b,k)):YB A' w (.pt (l.drop off)) (.pointer (some ⟨b,off,none⟩)):=by
 obtain⟨b',c,e,h1,h2,h3,h4⟩:=h;rw[h1]at hb;cases hb;obtain⟨g1,g2⟩:=d9C hl
 refine .pt _ b off (fun i=>c.getD (off+i) undef) (fun i y hy=>?_) (fun i y hy=>?_)<;>rw[a9J]at hy<;>obtain⟨x,hx,VX⟩:=g2 _ y hy
 ·refine⟨Yq _ _ h1,IA h2 ?_⟩;rw[h3];exact(a7y.1 hx).1
 ·exact d8C (h4 _ x hx) VX hA
theorem d1D{A A':Nat->Prop}{b clock:Nat}{es:Array MapEntry}{sk:Sk}{g:List Value->Option (List IV)}(hh:w.heap[b]? =some (.map es clock))(hb:WG es clock)(h:Xx A w sk g es)
 (hA:∀b,b<w.heap.size->A b->A' b) (Yq:A' b):YB A' w (.mp sk g) (.map (some b)):=by
 obtain⟨m1,m2,m3,m4⟩:=h
 classical
 have:∀k,∃e:MapEntry,∀c,g k=some c->e∈es.toList/\X9 e.key=k/\e.val.cells.size=c.length/\∀i x,c[i]? =some x->YB A w x (e.val.cells.getD i undef):=by
  intro k
  cases hg:g k with
  |none=>exact⟨⟨undef,undef,0⟩,fun c h=>by cases h⟩
  |some c=>obtain⟨e,h⟩:=m4 k c hg;exact⟨e,fun c' hc=>by cases hc;exact h⟩
 refine .mp sk g b clock es (fun k i=>(b6u (this k)).val.cells.getD i undef) Yq hh m1 m2 m3 hb (fun k c hg=>?_) (fun k c hg i x hx=>?_)<;>
  obtain⟨h1,h2,h3,h4⟩:=b5P (this k) c hg
 ·refine⟨_,h1,h2,h3,fun i x hx=>?_⟩
  have hi:i<(b6u (this k)).val.cells.size:=by rw[h3];exact(a7y.1 hx).1
  exact d7C hi
 ·exact(h4 i x hx).mono hA (fun _ _ _=>rfl)
theorem d2D{A A':Nat->Prop}{sz:Nat}{xs:List (List IV)}{p:Option (Nat×(Nat×Nat))}{v:Value}(h:Ti A w sz xs p v)(hA:∀b,b<w.heap.size->A b->A' b)
 (Yq:∀b q,p=some (b,q)->A' b):YB A' w (.Z6 sz xs) v:=by
 obtain⟨hs,⟨_,h2,h3⟩|⟨b,k,cap,a,h1,h2,h3,h4,h5,h6,c,e,g1,g2,g3,g4⟩⟩:=h
 ·subst h2;subst h3;exact .Wj sz
 ·subst h2
  have bound:∀{i j x},at2 xs i j=some x->i*sz+j<xs.length*sz:=by
   intro i j x Xo;obtain⟨r,hr,hj⟩:=JO Xo;have hi:i<xs.length:=(a7y.1 hr).1
   have hj':j<sz:=by rw[<-hs r (a8y hr)];exact(a7y.1 hj).1
   have hm:(i+1)*sz<=xs.length*sz:=a5E sz (by omega)
   have e2:(i+1)*sz=i*sz+sz:=by rw[a8M];omega
   omega
  refine YB.Z6 sz xs b k.1 cap a (fun i j=>c.getD (k.1+(i*sz+j)) undef) (fun ZS=>h3 ?_) hs h4 (fun i j x Xo=>⟨Yq _ _ h1,?_⟩) (fun i j x Xo=>(g4 i j x Xo).mono hA (fun _ _ _=>rfl))
  ·rcases b5j cap with h0|h0
   ·exact absurd (a8R (by omega)) ZS
   ·exact h0
  ·have:=bound Xo;exact IA g1 (by omega)
theorem d3D{v:Value}(h:SU v=false):v.cells= #[v]:=by cases v<;>simp_all[SU,Value.cells]
theorem d4D{A A':Nat->Prop}{H:Hp}{id sz:Nat}{sk:Sk}{g:List Value->Option (List (List IV))}(h:Xa A ψ H w id (.YJ sk sz g none))(hA:∀b,b<w.heap.size->A b->A' b)
 (Yq:∀b,Z2 ψ id b->A' b) {b:Nat} {k:Nat×Nat} (hb:ψ id=some (b,k)):YB A' w (.mp sk fun k=>(g k).map fun xs=>[IV.Z6 sz xs]) (.map (some b)):=by
 obtain⟨b',es,clock,pl,h1,h2,h3,h4,h5,h6,h7,h8,h9,U0,TD⟩:=h;rw[h1]at hb;cases hb;refine d1D (A:=A') h2 h3 ⟨h4,fun e he=>?_,h6,fun k c hc=>?_⟩ (fun _ _ h=>h) (Yq _ (.inl ⟨_,h1⟩))
 ·rcases h7 e he with h|⟨xs,h⟩
  ·cases h
  ·exact⟨[.Z6 sz xs],by simp[h]⟩
 ·cases hg:g k with
  |none=>simp only[hg]at hc;cases hc
  |some xs=>
   simp only[hg]at hc;simp only[a4G,a5y]at hc;subst hc;obtain⟨e,g1,g2,g3⟩:=h9 k xs hg;have hc:=d3D ((h4 e g1).2.trans h5);refine⟨e,g1,g2,by rw[hc];rfl,fun i x hx=>?_⟩
   cases i with
   |zero=>
    simp only[a9E,a5y]at hx;subst hx;rw[hc]
    exact d2D g3 hA fun b' q hq=>Yq _ (.inr (U0 k xs b' q hg hq))
   |succ i=>simp at hx
theorem d5D{A A':Nat->Prop}{H:Hp}{id sz:Nat}{xs:List (List (List IV))}(h:Xa A ψ H w id (.ZI sz xs none))(hA:∀b,b<w.heap.size->A b->A' b)
 (Yq:∀b,Z2 ψ id b->A' b) {lo len cap:Nat} {a:Addr} {b:Nat} {k:Nat×Nat} (hb:ψ id=some (b,k)) (ha:0<cap->a=⟨b,k.1+lo*1,none⟩) (UO:len<=cap)
 (hx:lo+len<=xs.length):YB A' w (.Z6 1 (((xs.map fun x=>[IV.Z6 sz x]).drop lo).take len)) (.slice (some a) len cap):=by
 obtain⟨_,b',k',c,e,pl,h1,h2,h3,h4,h5,h6,h7⟩:=h;rw[h1]at hb;cases hb
 have hlen:(((xs.map fun x=>[IV.Z6 sz x]).drop lo).take len).length=len:=by simp;omega
 have el:∀{i j x},at2 (((xs.map fun x=>[IV.Z6 sz x]).drop lo).take len) i j=some x->∃z,xs[lo+i]? =some z/\j=0/\x= .Z6 sz z:=by
  intro i j x Xo;have VE:=d0C _ _ _ _ _ _ Xo;obtain⟨r,hr,hj⟩:=JO VE;rw[a0C]at hr
  cases hz:xs[lo+i]? with
  |none=>rw[hz]at hr;cases hr
  |some z=>
   rw[hz]at hr;simp only[a4G,a5y]at hr;subst hr
   cases j with
   |zero=>simp only[a9E,a5y]at hj;exact⟨z,rfl,rfl,hj.symm⟩
   |succ j=>simp at hj
 have key:=YB.Z6 (A:=A') (w:=w) 1 (((xs.map fun x=>[IV.Z6 sz x]).drop lo).take len) b (k.1+lo*1) cap a (fun i j=>c.getD (k.1+(lo+i)) undef)
  (fun ZS=>ha (by
   rcases b5j cap with h0|h0
   ·exact absurd (a8R (by omega)) ZS
   ·exact h0))
  (fun x hx=>by
   have:=b3M (b4j hx);obtain⟨z,_,rfl⟩:=a3E.1 this
   rfl) (by omega)
  (fun i j x Xo=>by
   obtain⟨z,g1,rfl,rfl⟩:=el Xo;have hi:lo+i<xs.length:=(a7y.1 g1).1;refine⟨Yq _ (.inl ⟨_,h1⟩),?_⟩;rw[show k.1+lo*1+(i*1+0)=k.1+(lo+i)from by omega]
   exact IA h2 (by omega))
  (fun i j x Xo=>by
   obtain⟨z,g1,rfl,rfl⟩:=el Xo
   exact d2D (h5 _ z g1 (by simp)) hA fun b' q hq=>Yq _ (.inr (h6 _ z b' q g1 (by simp) hq)))
 rw[hlen]at key;exact key
theorem Xa.ZQ{A A':Nat->Prop}{H H':Hp}{f:AV->AV}{id:Nat}{o:Ob}(h:Xa A ψ H w id o)(hA:∀b,b<w.heap.size->A b->A' b)
 (hf:c9H A A' ψ ψ H H' w w f) (M4:∀cs,f (.agg cs)= .junk) (NW:∀cs,f (.Zp cs)= .junk):Xa A' ψ H' w id (o.ZQ f):=by
 cases o with
 |box cs=>
  obtain⟨b,c,e,h1,h2,h3,h4⟩:=h;refine⟨b,c,e,h1,h2,by simpa using h3,fun i x hx=>?_⟩;rw[a0C]at hx
  cases Wx:cs[i]? with
  |none=>rw[Wx]at hx;cases hx
  |some c0=>
   rw[Wx]at hx;cases hx;have h5:=h4 i c0 Wx
   cases c0 with
   |agg l=>rw[M4];exact .junk _
   |Zp l=>rw[NW];exact .junk _
   | _=>exact hf _ _ h5 (by simp) (by simp)
 |list sz xs=>
  obtain⟨h0,ho⟩:=h;refine⟨h0,?_⟩
  rcases ho with ho|⟨b,k,c,e,h1,h2,h3,Te,h4⟩
  ·exact .inl ho
  ·exact .inr ⟨b,k,c,e,h1,h2,h3,Te,fun i j x hx=>(h4 i j x hx).mono hA (fun _ _ _=>rfl)⟩
 |map sk g=>obtain⟨b,es,clock,h1,h2,h3,m⟩:=h;exact⟨b,es,clock,h1,h2,h3,m.mono hA (fun _ _ _=>rfl)⟩
 |WT sk g n kk=>obtain⟨b,es,clock,h1,h2,h3,m,h4⟩:=h;exact⟨b,es,clock,h1,h2,h3,m.mono hA (fun _ _ _=>rfl),h4⟩
 |YU org sz xs=>
  obtain⟨h0,ho⟩:=h;refine⟨h0,?_⟩
  rcases ho with ho|⟨b,k,c,e,h1,h2,h3,Te,h4⟩
  ·exact .inl ho
  ·exact .inr ⟨b,k,c,e,h1,h2,h3,Te,fun i j x hx=>(h4 i j x hx).mono hA (fun _ _ _=>rfl)⟩
 |YJ sk sz g hole=>
  obtain⟨b,es,clock,pl,h1,h2,h3,h4,h5,h6,h7,h8,h9,U0,TD⟩:=h;refine⟨b,es,clock,pl,h1,h2,h3,h4,h5,h6,h7,h8,fun k xs hg=>?_,U0,TD⟩;obtain⟨e,g1,g2,g3⟩:=h9 k xs hg;exact⟨e,g1,g2,g3.mono hA (fun _ _ _=>rfl) fun _ _ _=>rfl⟩
 |ZI sz xs hole=>
  obtain⟨h0,b,k,c,e,pl,h1,h2,h3,h4,h5,h6,h7⟩:=h;exact⟨h0,b,k,c,e,pl,h1,h2,h3,h4,fun i x g1 g2=>(h5 i x g1 g2).mono hA (fun _ _ _=>rfl) fun _ _ _=>rfl,h6,h7⟩
 |iter sk g left last=>
  obtain⟨b,m,since,stamps,YG,h1,h2,h3⟩:=h;refine⟨b,m,since,stamps,YG,h1,h2,?_⟩
  rcases h3 with h3|⟨bm,es,g1,g2,g3,g4,g5,g6,g7⟩
  ·exact .inl h3
  ·exact .inr ⟨bm,es,g1,hA bm (VJ g3) g2,g3,g4,g5,g6.mono hA (fun _ _ _=>rfl),g7⟩
 |gh Z vs cs=>
  obtain⟨h1,h2,h3,h4⟩:=h;refine⟨h1,h2.mono hA (fun _ h=>h) (fun _ _ _=>rfl) (fun _ _=>rfl),by simpa using h3,fun i x hx=>?_⟩;rw[a0C]at hx
  cases Wx:cs[i]? with
  |none=>rw[Wx]at hx;cases hx
  |some c0=>rw[Wx]at hx;cases hx;exact(h4 i c0 Wx).ZQ hf M4 NW
theorem Z7.drop(h:Z7 E n ψ s a w){id:Nat}(VF:id<1000):Z7 E n ψ (s.drop id) a w:=by
 have gen:∀f:AV->AV,f .junk= .junk->(∀cs,f (.agg cs)= .junk)->(∀cs,f (.Zp cs)= .junk)->
  (
   let t:St:={s.ZQ f with hp:=(s.ZQ f).hp.filter (·.1 != id)}
   c9H (Im E ψ s.hp) (Im E ψ t.hp) ψ ψ s.hp t.hp w w f->Z7 E n ψ t a w):=by
  intro f hj M4 NW t hf
  have f8m:∀k,look t.hp k=if k=id then none else(look s.hp k).map (Ob.ZQ f):=by
   intro k
   show look ((s.ZQ f).hp.filter (·.1 != id)) k=_
   rw[Iy,Ir]
  have back:∀{k o},look t.hp k=some o->k≠id/\∃o',look s.hp k=some o'/\o=o'.ZQ f:=by
   intro k o hk;rw[f8m]at hk;split at hk
   ·cases hk
   ·rename_i ZS
    cases ho:look s.hp k with
    |none=>rw[ho]at hk;cases hk
    |some o'=>rw[ho]at hk;exact⟨ZS,o',rfl,by simpa using hk.symm⟩
  have hA:∀b,b<w.heap.size->Im E ψ s.hp b->Im E ψ t.hp b:=by
   rintro b _ ⟨h1,h2⟩;refine⟨h1,?_⟩;rintro⟨k,o,ho,hq⟩;obtain⟨_,o',XQ,_⟩:=back ho;exact h2 ⟨k,o',XQ,hq⟩
  refine {size:=h.size,defers:=h.defers.mono hA (fun _ _ _=>rfl),par:=h.par,old:=h.old,grow:=h.grow,same:=h.same,frame:=fun x=>?_,YH:=?_,inj:=?_,own:=?_,Y0:=?_}
  ·have e:t.get x=(s.get x).ZQ f:=St.T2 f hj x;rw[e];exact(h.frame x).ZQ hf M4 NW
  ·intro k o hk;obtain⟨ZS,o',XQ,rfl⟩:=back hk;exact(h.YH k o' XQ).ZQ hA hf M4 NW
  ·intro i i' o o' b hi VZ hb XB;obtain⟨_,o1,h1,_⟩:=back hi;obtain⟨_,o2,h2,_⟩:=back VZ;exact h.inj i i' o1 o2 b h1 h2 hb XB
  ·intro i o b hi hb;obtain⟨_,o1,h1,rfl⟩:=back hi;rw[Ob.T1];exact h.own i o1 b h1 hb
  ·intro i o b hi hb;obtain⟨_,o1,h1,rfl⟩:=back hi;rw[Ob.VU];exact h.Y0 i o1 b h1 hb
 have kb:∀f:AV->AV,c0I (· ==id) ψ ψ s.hp ((s.ZQ f).hp.filter (·.1 != id)):=by
  intro f k o hk ho
  have hk:k≠id:=by simpa using hk
  refine⟨⟨o.ZQ f,?_,Ob.SA f o⟩,rfl⟩;rw[Iy,Ir,if_neg hk,ho];rfl
 have im:∀f:AV->AV,∀b,b<w.heap.size->Im E ψ s.hp b->Im E ψ ((s.ZQ f).hp.filter (·.1 != id)) b:=by
  rintro f b _ ⟨h1,h2⟩;refine⟨h1,?_⟩;rintro⟨k,o,ho,hq⟩;rw[Iy,Ir]at ho;split at ho
  ·cases ho
  ·cases XQ:look s.hp k with
   |none=>rw[XQ]at ho;cases ho
   |some o'=>exact h2 ⟨k,o',XQ,hq⟩
 unfold St.drop
 cases ho:look s.hp id with
 |none=>exact h
 |some o=>
  refine gen (fun x=>(x.fc id o).kc (· ==id)) rfl (fun _=>rfl) (fun _=>rfl) ?_
  show c9H (Im E ψ s.hp) (Im E ψ ((s.ZQ fun x=>(x.fc id o).kc (· ==id)).hp.filter (·.1 != id))) ψ ψ s.hp ((s.ZQ fun x=>(x.fc id o).kc (· ==id)).hp.filter (·.1 != id)) w w (fun x=>(x.fc id o).kc (· ==id))
  have EH:=im fun x=>(x.fc id o).kc (· ==id)
  have kb1:=kb fun x=>(x.fc id o).kc (· ==id)
  have hH2:∀k' o',look ((s.ZQ fun x=>(x.fc id o).kc (· ==id)).hp.filter (·.1 != id)) k'=some o'->k'≠id/\∃o1,look s.hp k'=some o1:=by
   intro k' o' XQ;rw[Iy,Ir]at XQ;split at XQ
   ·cases XQ
   ·rename_i ZS
    cases ho1:look s.hp k' with
    |none=>rw[ho1]at XQ;cases XQ
    |some o1=>exact⟨ZS,o1,rfl⟩
  generalize ((s.ZQ fun x=>(x.fc id o).kc (· ==id)).hp.filter (·.1 != id))=H2 at EH kb1 hH2⊢;intro x v hx Mx hn2;have hkc:=c1I (p:=(· ==id)) (w:=w) (w':=w) EH (fun _ _ _=>rfl) kb1;have Uh:=h.YH id _ ho
  have Yq:o.Zl=false->∀b,Z2 ψ id b->Im E ψ H2 b:=by
   intro hl b hb;refine⟨.inr ?_,?_⟩
   ·rcases h.own id _ b ho hb with⟨h1,_⟩|h1
    ·have e:o.org id=id:=by cases o<;>first|rfl|cases hl
     rw[e]at h1;have:=E.big id h1;omega
    ·exact h1
   ·rintro⟨k',o',XQ,hq⟩;obtain⟨ZS,o1,ho1⟩:=hH2 k' o' XQ;exact ZS (h.inj k' id o1 _ b ho1 ho hq hb)
  have FJ:o.Zl=false->∀b k,ψ id=some (b,k)->Im E ψ H2 b:=fun hl b k hb=>Yq hl b (.inl ⟨k,hb⟩)
  have jk:∀{v},ZK (Im E ψ H2) ψ H2 w (AV.junk.kc (· ==id)) v:= .junk _
  cases hx with
  |U4 j ZB o' m hj he hb=>
   by_cases WB:j=id
   ·subst WB;rw[ho]at hj;cases hj;simp only[AV.fc,if_true]
    cases o with
    |list sz xs=>
     simp only[AV.kc];rw[b2S];exact .iv _ _ (.Wj _)
    |ZI sz xs hole=>
     cases hole with
     |none=>
      simp only[AV.kc];rw[b2S];exact .iv _ _ (.Wj _)
     |some q=>exact jk
    | _=>exact jk
   ·have:=hkc _ _ (.U4 j ZB o' m hj he hb) (by simp) (by simp);simpa[AV.fc,WB]using this
  |sl j ZB lo len b k cap ad o' m hj he Jt hb ha UO hk hm=>
   by_cases WB:j=id
   ·subst WB;rw[ho]at hj;cases hj;simp only[AV.fc,if_true]
    cases o with
    |list sz xs=>
     simp only[Ob.dim,a5y,a6J]at he;obtain⟨rfl,rfl⟩:=he;exact .iv _ _ (d5C Uh EH (FJ rfl) hb ha UO Jt)
    |ZI sz xs hole=>
     simp only[Ob.dim,a5y,a6J]at he;obtain⟨rfl,rfl⟩:=he
     cases hole with
     |none=>exact .iv _ _ (d5D Uh EH (Yq rfl) hb ha UO Jt)
     |some q=>exact jk
    | _=>exact jk
   ·have:=hkc _ _ (.sl j ZB lo len b k cap ad o' m hj he Jt hb ha UO hk hm) (by simp) (by simp);simpa[AV.fc,WB]using this
  |ep j ZB i off b k o' m hj he hi hb=>
   by_cases WB:j=id
   ·subst WB;rw[ho]at hj;cases hj;simp only[AV.fc,if_true]
    cases o with
    |list sz xs=>
     simp only[Ob.dim,a5y,a6J]at he;obtain⟨rfl,rfl⟩:=he;exact .iv _ _ (d6C Uh EH (FJ rfl) hb hi)
    | _=>exact jk
   ·have:=hkc _ _ (.ep j ZB i off b k o' m hj he hi hb) (by simp) (by simp);simpa[AV.fc,WB]using this
  |mpr j b k o' hj hb=>
   by_cases WB:j=id
   ·subst WB;rw[ho]at hj;cases hj;simp only[AV.fc,if_true]
    cases o with
    |map sk g=>
     obtain⟨b',es,clock,g1,g2,g3,g4⟩:=Uh;rw[g1]at hb;cases hb;exact .iv _ _ (d1D g2 g3 g4 EH (FJ rfl _ _ g1))
    |YJ sk sz g hole=>
     cases hole with
     |none=>exact .iv _ _ (d4D Uh EH (Yq rfl) hb)
     |some q=>exact jk
    | _=>exact jk
   ·have:=hkc _ _ (.mpr j b k o' hj hb) (by simp) (by simp);simpa[AV.fc,WB]using this
  |ptr j off b k o' hj hb=>
   by_cases WB:j=id
   ·subst WB;rw[ho]at hj;cases hj;simp only[AV.fc,if_true]
    cases o with
    |box cs=>
     have e:∀A H,(∀l,SM cs=some l->ZK A ψ H w (.iv (.pt (l.drop off))) (.pointer (some ⟨b,off,none⟩)))->
      ZK A ψ H w (AV.kc (· ==j) (match SM cs with|some l=> .iv (.pt (l.drop off))|none=> .junk)) (.pointer (some ⟨b,off,none⟩)):=by
      intro A H hh;split
      ·rename_i l hl;exact hh l hl
      ·exact .junk _
     exact e _ _ fun l hl=> .iv _ _ (d0D Uh hl EH (FJ rfl) hb)
    | _=>exact jk
   ·have:=hkc _ _ (.ptr j off b k o' hj hb) (by simp) (by simp);simpa[AV.fc,WB]using this
  |iv x v hx=>exact hkc _ _ (.iv x v hx) (fun _ h=>by cases h) (fun _ h=>by cases h)
  |nil ZB=>exact .nil ZB
  |fn g first caps vf vc hf hc h1 h2=>
   have VA:∀{c:Z3} {v:Value},(c.fc id o).of (· ==id)=false->Xg (Im E ψ s.hp) ψ s.hp w c v->
    Xg (Im E ψ H2) ψ H2 w (c.fc id o) v:=by
    intro c v hp hr
    cases hr with
    |val x v hx=>exact .val x v (hx.mono EH (fun _ _ _=>rfl))
    |ptr j off b k o' hj hb=>
     by_cases WB:j=id
     ·subst WB;rw[ho]at hj;cases hj;simp only[Z3.fc,if_true]at hp⊢
      cases o with
      |box cs=>
       dsimp only at hp⊢
       cases hl:SM cs with
       |none=>rw[hl]at hp;simp[Z3.of]at hp
       |some l=>exact .val _ _ (d0D Uh hl EH (FJ rfl) hb)
      | _=>simp[Z3.of]at hp
     ·simp only[Z3.fc,if_neg WB];obtain⟨⟨o2,q1,_⟩,q2⟩:=kb1 j o' (by simpa using WB) hj;exact .ptr j off b k o2 q1 hb
   simp only[AV.fc,AV.kc];split
   ·exact .junk _
   ·rename_i hp;simp only[b6L,b4o,not_or,not_exists,not_and,c1h,a3E,forall_exists_index,and_imp,forall_apply_eq_imp_iff₂]at hp
    refine .fn g _ _ vf vc (by simpa using hf) (by simpa using hc) (fun i c h=>?_) (fun i c h=>?_)<;>rw[a0C]at h
    ·cases hi:first[i]? with
     |none=>rw[hi]at h;cases h
     |some c0=>rw[hi]at h;cases h;exact VA (hp.1 c0 (a8y hi)) (h1 i c0 hi)
    ·cases hi:caps[i]? with
     |none=>rw[hi]at h;cases h
     |some c0=>rw[hi]at h;cases h;exact VA (hp.2 c0 (a8y hi)) (h2 i c0 hi)
  |agg cs vs hl h=>exact(Mx cs rfl).elim
  |Zp cs vs hl h=>exact(hn2 cs rfl).elim
  |un=>exact .un
  |junk v=>exact .junk v
end
section
variable{E:En}{n:Nat}{ψ:Pl}{s:St}{a:Act}{w:World}
def St.lone(id:Nat)(s:St):St:=s.ZQ (AV.kc (· ==id))
theorem e4j(id k:Nat):look (s.lone id).hp k=(look s.hp k).map (Ob.ZQ (AV.kc (· ==id))):=Ir _ _
def St.add(s:St)(id:Nat)(o:Ob):St:={s with hp:=(id,o)::s.hp}
theorem WX(id k:Nat)(o:Ob):look (s.add id o).hp k=if id=k then some o else look s.hp k:=by
 simp only[St.add,look]
def XF(ψ:Pl)(id:Nat)(p:Option (Nat×(Nat×Nat))):Pl:=⟨fun j=>if j=id then p else ψ j,fun j b=>j≠id/\ψ.sub j b⟩
theorem e6j(id:Nat)(p:Option (Nat×(Nat×Nat))){b:Nat}(h:Z2 (XF ψ id p) id b):∃k,p=some (b,k):=by
 rcases h with⟨k,h⟩|h
 ·simp only[XF,if_true]at h;exact⟨k,h⟩
 ·exact absurd rfl h.1
theorem JF{id j:Nat}(p:Option (Nat×(Nat×Nat))){b:Nat}(hj:j≠id):Z2 (XF ψ id p) j b↔Z2 ψ j b:=by
 simp[Z2,XF,hj]
theorem Z7.new(h:Z7 E n ψ s a w){id:Nat}(VF:id<1000)(Y6:look s.hp id=none){o:Ob}{w':World}(hx:Ext w w'){p:Option (Nat×(Nat×Nat))}
 (hp:∀b k,p=some (b,k)->w.heap.size<=b)
 (ho:Xa (fun b=>b<w.heap.size/\Im E ψ s.hp b) (XF ψ id p) (s.add id o).hp w' id o):Z7 E n (XF ψ id p) (s.add id o) a w':=by
 have ZS:∀{k o},look s.hp k=some o->k≠id:=by rintro k o hk rfl;rw[Y6]at hk;cases hk
 have ZV:∀{k o b},look s.hp k=some o->Z2 ψ k b->b<w.heap.size:=fun hk hb=>h.lt hk hb
 have hI:∀b,b<w.heap.size->Im E ψ s.hp b->Im E (XF ψ id p) (s.add id o).hp b:=by
  rintro b hb ⟨h1,h2⟩;refine⟨h1,?_⟩;rintro⟨k,ob,hk,hq⟩;rw[WX]at hk
  by_cases he:id=k
  ·subst he;obtain⟨q,hq⟩:=e6j _ _ hq;have:=hp _ _ hq;omega
  ·rw[if_neg he]at hk;exact h2 ⟨k,ob,hk,(JF p (Ne.symm he)).1 hq⟩
 have hw:∀b,b<w.heap.size->Im E ψ s.hp b->w'.heap[b]? =w.heap[b]? :=fun b hb _=>hx.block b hb
 have hk:Vt ψ (XF ψ id p) s.hp (s.add id o).hp:=by
  intro k ob hk;have ZS:=ZS hk;refine⟨⟨ob,?_,ob.le_refl⟩,?_⟩
  ·rw[WX,if_neg (Ne.symm ZS)];exact hk
  ·simp[XF,ZS]
 refine {size:=h.size,defers:=h.defers.mono hI hw,frame:=fun t=>(h.frame t).mono hI hw hk,YH:=?_,inj:=?_,own:=?_,Y0:=?_,par:=?_,old:=?_,grow:=?_,same:=?_}
 ·intro k ob Qf;rw[WX]at Qf
  by_cases he:id=k
  ·subst he;rw[if_pos rfl]at Qf;cases Qf;exact ho.mono (fun b _ hb=>hI b hb.1 hb.2) (fun _ _ _=>rfl) (Vt.refl _ _) ⟨rfl,fun _ h=>h⟩ (fun _ _=>rfl)
  ·rw[if_neg he]at Qf
   exact(h.YH k ob Qf).mono hI hw hk ⟨by simp[XF,Ne.symm he],fun b hb=>⟨Ne.symm he,hb⟩⟩ fun b hb=>hx.block b (ZV Qf hb)
 ·intro i i' o1 o2 b hi VZ hb XB;rw[WX]at hi VZ
  by_cases e1:id=i
  ·by_cases e2:id=i'
   ·exact e1.symm.trans e2
   ·subst e1;rw[if_neg e2]at VZ;obtain⟨q,hb⟩:=e6j _ _ hb;have XB:=(JF p (Ne.symm e2)).1 XB;have:=hp _ _ hb;have:=ZV VZ XB;omega
  ·by_cases e2:id=i'
   ·subst e2;rw[if_neg e1]at hi;obtain⟨q,XB⟩:=e6j _ _ XB;have hb:=(JF p (Ne.symm e1)).1 hb;have:=hp _ _ XB;have:=ZV hi hb;omega
   ·rw[if_neg e1]at hi;rw[if_neg e2]at VZ;exact h.inj i i' o1 o2 b hi VZ ((JF p (Ne.symm e1)).1 hb) ((JF p (Ne.symm e2)).1 XB)
 ·intro i o1 b hi hb;rw[WX]at hi
  by_cases e1:id=i
  ·subst e1;obtain⟨q,hb⟩:=e6j _ _ hb;exact .inr (.inr (a9L h.grow (hp _ _ hb)))
  ·rw[if_neg e1]at hi;exact h.own i o1 b hi ((JF p (Ne.symm e1)).1 hb)
 ·intro i o1 b hi hb;rw[WX]at hi;rw[if_neg (Ne.symm hb.1)]at hi;obtain⟨g1,g2,g3⟩:=h.Y0 i o1 b hi hb.2;exact⟨g1,a4N g2 hx.size,fun k=>by simp only[XF,if_neg hb.1];exact g3 k⟩
 ·intro i hi
  have:i≠id:=by have:=E.big i hi;omega
  simp only[XF,if_neg this];exact h.par i hi
 ·intro b hb hm;rw[hx.block b (a4N hb h.grow)];exact h.old b hb hm
 ·exact a9L h.grow hx.size
 ·exact⟨hx.same.1.trans h.same.1,hx.same.2.1.trans h.same.2.1,hx.same.2.2.1.trans h.same.2.2.1,a9L h.same.2.2.2 hx.same.2.2.2⟩
theorem Z7.MH(h:Z7 E n ψ s a w){id:Nat}{o o':Ob}(hold:look s.hp id=some o)(hle:o.le o')(SR:o'.org id=o.org id)(hmul:o.multi=true->o'.multi=true){w':World}{b:Nat}{k:Nat×Nat}(hb:ψ id=some (b,k))
 (hw:∀i,i≠b->w'.heap[i]? =w.heap[i]?) (Yd:w'.heap.size=w.heap.size) (hs:w'.os=w.os/\w'.tape=w.tape/\w'.output=w.output/\w.drawn<=w'.drawn)
 (ho:(∀x v,ZK (Im E ψ s.hp) ψ s.hp w x v->ZK (Im E ψ (s.add id o').hp) ψ (s.add id o').hp w' x v)->
  (∀x v,YB (Im E ψ s.hp) w x v->YB (Im E ψ (s.add id o').hp) w' x v)->Xa (Im E ψ (s.add id o').hp) ψ (s.add id o').hp w' id o'):
 Z7 E n ψ (s.add id o') a w':=by
 have Vu:∀i,ZD ψ (s.add id o').hp i↔ZD ψ s.hp i:=by
  intro i;constructor
  ·rintro⟨j,ob,hj,hq⟩;rw[WX]at hj
   by_cases e:id=j
   ·subst e;exact⟨id,o,hold,hq⟩
   ·rw[if_neg e]at hj;exact⟨j,ob,hj,hq⟩
  ·rintro⟨j,ob,hj,hq⟩
   by_cases e:id=j
   ·subst e;exact⟨id,o',by rw[WX,if_pos rfl],hq⟩
   ·exact⟨j,ob,by rw[WX,if_neg e];exact hj,hq⟩
 have hI:∀i,i<w.heap.size->Im E ψ s.hp i->Im E ψ (s.add id o').hp i:=fun i _ h=>⟨h.1,fun hh=>h.2 ((Vu i).1 hh)⟩
 have hB:ZD ψ s.hp b:=⟨id,o,hold, .inl ⟨k,hb⟩⟩
 have S4:∀i,i<w.heap.size->Im E ψ s.hp i->w'.heap[i]? =w.heap[i]? :=fun i _ h=>hw i (fun e=>h.2 (e▸hB))
 have hk:Vt ψ ψ s.hp (s.add id o').hp:=by
  intro j ob hj;refine⟨?_,rfl⟩
  by_cases e:id=j
  ·subst e;rw[hold]at hj;cases hj;exact⟨o',by rw[WX,if_pos rfl],hle⟩
  ·exact⟨ob,by rw[WX,if_neg e];exact hj,ob.le_refl⟩
 refine {size:=h.size,defers:=h.defers.mono hI S4,frame:=fun t=>(h.frame t).mono hI S4 hk,YH:=?_,inj:=?_,own:=?_,Y0:=?_,par:=h.par,old:=?_,grow:=?_,same:=?_}
 ·intro j ob hj;rw[WX]at hj
  by_cases e:id=j
  ·subst e;rw[if_pos rfl]at hj;cases hj;exact ho (fun x v hx=>hx.mono hI S4 hk) (fun x v hx=>hx.mono hI S4)
  ·rw[if_neg e]at hj
   refine(h.YH j ob hj).mono hI S4 hk ⟨rfl,fun _ h=>h⟩ fun i hi=>hw i ?_
   rintro rfl;exact e (h.inj id j o ob i hold hj (.inl ⟨k,hb⟩) hi)
 ·have conv:∀{i o1},look (s.add id o').hp i=some o1->∃o2,look s.hp i=some o2:=by
   intro i o1 hi;rw[WX]at hi
   by_cases e:id=i
   ·subst e;exact⟨o,hold⟩
   ·rw[if_neg e]at hi;exact⟨o1,hi⟩
  intro i i' o1 o2 x hi VZ hx Vw;obtain⟨_,g1⟩:=conv hi;obtain⟨_,g2⟩:=conv VZ;exact h.inj i i' _ _ x g1 g2 hx Vw
 ·intro i o1 x hi hx;rw[WX]at hi
  by_cases e:id=i
  ·subst e;rw[if_pos rfl]at hi;cases hi;rw[SR];exact h.own id o x hold hx
  ·rw[if_neg e]at hi;exact h.own i o1 x hi hx
 ·intro i o1 x hi hx;rw[WX]at hi
  by_cases e:id=i
  ·subst e;rw[if_pos rfl]at hi;cases hi;obtain⟨g1,g2,g3⟩:=h.Y0 id o x hold hx;exact⟨hmul g1,by rw[Yd];exact g2,g3⟩
  ·rw[if_neg e]at hi;obtain⟨g1,g2,g3⟩:=h.Y0 i o1 x hi hx;exact⟨g1,by rw[Yd];exact g2,g3⟩
 ·intro i hi hm;rw[hw i ?_]
  ·exact h.old i hi hm
  ·rintro rfl
   rcases h.own id o i hold (.inl ⟨k,hb⟩)with⟨h1,h2⟩|h1
   ·exact hm (.inl ⟨_,h1,h2⟩)
   ·exact E.no hi hm h1
 ·rw[Yd];exact h.grow
 ·exact⟨hs.1.trans h.same.1,hs.2.1.trans h.same.2.1,hs.2.2.1.trans h.same.2.2.1,a9L h.same.2.2.2 hs.2.2.2⟩
theorem e8j(w:World)(a:Addr)(v:Value)(i:Nat)(h:i≠a.block):(w.setCell a v).heap[i]? =w.heap[i]? :=by
 simp only[World.setCell,a1Q];rw[if_neg (fun e=>h e.symm)]
theorem e9j(w:World)(b o:Nat)(v:Value){c:Array Value}{e:TypeId}{f:Nat×Nat}(h:w.heap[b]? =some (.cells c e f)):
 (w.setCell ⟨b,o,none⟩ v).heap[b]? =some (.cells (c.setIfInBounds o v) e f):=by
 simp only[World.setCell,a1Q,if_true,h,a4G];rfl
end
inductive Wu where
 |Td (x:Operand)
 |Ix (sz:Nat)
 |pick (c a b:Operand)
 |alloc (z:List AV)
 |box (x:Operand)
 |build (z:List AV) (parts:List (Nat×Nat×Operand))
 |lit (sz len:Nat) (parts:List (Nat×Operand))
 |ld (a:Operand) (n:Option Nat)
 |st (a x:Operand) (n:Nat)
 |sb (x:Operand)
 |bin (op:BinOp) (x y:Operand)
 |beq (neg:Bool) (x y:Operand)
 |peq (neg:Bool) (x y:Operand)
 |eqs (neg:Bool) (ks:List Kd) (x y:Operand)
 |un (op:UnOp) (x:Operand)
 |cvt (k:IntKind) (x:Operand)
 |cut (sz:Nat) (x:Operand) (lo hi:Option Operand)
 |fa (off:Nat) (x:Operand)
 |WJ (off:Nat) (n:Option Nat) (x:Operand)
 |ia (sz:Nat) (x i:Operand)
 |is (x i:Operand)
 |ix (n:Nat) (x i:Operand)
 |ext (i:Nat) (x:Operand)
 |len (x:Operand)
 |lens (x:Operand)
 |app (sz bytes:Nat) (x y:Operand)
 |mm (max:Bool) (xs:List Operand)
 |call (f:FuncId) (args:List Operand)
 |Yz (x:Operand) (args:List Operand)
 |V6 (f:FuncId) (first caps:List Operand)
 |mks (sz bytes:Nat) (z:List AV) (l c:Operand)
 |XD (sk:Sk)
 |UT (sk:Sk) (z:List AV) (m k:Operand) (ok:Bool)
 |YI (sk:Sk) (m k x:Operand)
 |Hq (sk:Sk) (m k:Operand)
 |Ho (x:Operand)
 |Qg (neg:Bool) (x:Operand)
 |cpy (sz:Nat) (x y:Operand)
 |clr (sz:Nat) (z:List AV) (x:Operand)
 |JN (sk:Sk) (z:List AV) (m k:Operand)
 |est (m st x:Operand)
 |QY (sk:Sk) (x:Operand)
 |nxt (x:Operand)
 |S7 (x:Operand)
 deriving Inhabited
structure Yv where
 d:Option Nat
 g:Option (Nat×Bool)
 r:Wu
 deriving Inhabited
def Iz(sz:Nat):Value->AV
 | .slice none 0 0=> .nil sz
 | .agg _=> .junk
 | .tuple _=> .junk
 |v=> .iv (.v v)
def AV.const:Value->AV
 | .agg cs=> .agg (cs.toList.map (Iz 0))
 |v=>Iz 0 v
def St.ev(s:St):Operand->AV
 | .tmp t=>s.get t
 | .const v=>AV.const v
 | .global _=> .junk
 | .func f=> .fn f [] []
def X7(P:Program)(t:TypeId):Option Nat:=(P.info? t).map (·.size)
def f3Q(P:Program)(t:TypeId):Nat:=match P.underlying t with
 |some (.slice e)=>(X7 P e).getD 0
 | _=>0
def sj(P:Program):Nat->TypeId->List Nat
 | 0,_=>[]
 |d+1,t=>match P.underlying t with
  |some (.struct fs)=>fs.toList.flatMap fun f=>sj P d f.type
  |some (.array k e)=>(a6R k ()).flatMap fun _=>sj P d e
  |some (.slice e)=>[(X7 P e).getD 0]
  | _=>[0]
def O9:List Value->List Nat->List AV
 | [],_=>[]
 |v::r,[]=>Iz 0 v::O9 r []
 |v::r,n::q=>Iz n v::O9 r q
def Q6(P:Program)(t:TypeId):Option (List AV):=do
 let i<-P.info? t
 let z<-i.zero
 pure (O9 z.cells.toList (sj P 20 t))
def XZ(P:Program)(t:TypeId):Bool:=match P.underlying t with
 |some (.struct _)|some (.array ..)=>true
 | _=>false
def Sd(P:Program):Nat->TypeId->Option (List Kd)
 | 0,_=>none
 |d+1,t=>match P.underlying t with
  |some .bool=>some [.b]
  |some (.int k)=>some [.i k]
  |some .string=>some [.s]
  |some (.struct fs)=>if P.stoodInHeld t then none else fs.toList.foldlM (fun ks f=>if f.name≠ "_"/\f.offset=ks.length then
   (Sd P d f.type).bind fun q=>if X7 P f.type=some q.length then some (ks++q)else none else none) []
  | _=>none
def Nt(P:Program)(t e:TypeId):Option Sk:=(Sd P 20 t).bind fun l=>if X7 P t=some l.length then(if(P.underlying e).isSome then some (XZ P t,l,XZ P e)else none)else none
def IX:AV->Option (Kd×Value)
 | .iv (.v u)=>(Za u).map fun k=>(k,u)
 | _=>none
def SY:AV->Option ((Bool×List Kd)×List Value)
 | .iv (.v u)=>(Za u).map fun k=>((false,[k]),[u])
 | .agg cs=>(cs.mapM IX).map fun(l:List (Kd×Value))=>((true,l.map (·.1)),l.map (·.2))
 | _=>none
open Classical in
noncomputable def ZG{β:Type}(g:List Value->Option β)(k:List Value)(c:Option β):List Value->Option β:=fun q=>if q=k then c else g q
open Classical in
noncomputable def O6(k:List Value)(l:List (List Value)):List (List Value):=l.filter fun q=>decide (q≠k)
def Hn:AV->Bool
 | .agg _=>true
 | _=>false
def Tq(agg:Bool)(cs:List AV):AV:=if agg then .agg cs else match cs with| [x]=>x| _=> .junk
def N9(z:List AV)(agg ok:Bool):Option (List IV)->AV
 |some c=>if ok then .Zp [Tq agg (c.map .iv), .iv (.v (.bool true))]else Tq agg (c.map .iv)
 |none=>if ok then .Zp [Tq agg z, .iv (.v (.bool false))]else Tq agg z
def St.mapOf(s:St):AV->Option (Sk×(List Value->Option (List IV)))
 | .mpr id=>match look s.hp id with
  |some (.map sk g)=>some (sk,g)
  |some (.WT sk g _ _)=>some (sk,g)
  | _=>none
 | .iv (.mp sk g)=>some (sk,g)
 | _=>none
def St.QU(s:St):AV->Option (Nat×Sk×Nat×(List Value->Option (List (List IV)))×Option (List Value))
 | .mpr id=>match look s.hp id with
  |some (.YJ sk sz g hole)=>some (id,sk,sz,g,hole)
  | _=>none
 | _=>none
open Classical in
noncomputable def ri(v:Value):List Value->List AV->Option Nat
 |u::vs,c::cs=>match c with
  | .mpr id=>if u=v then some id else ri v vs cs
  | _=>ri v vs cs
 | _,_=>none
noncomputable def c7T(s:Hp)(v:Value):Hp->Option Nat
 | []=>none
 |(g,_)::r=>match look s g with
  |some (.gh _ vs cs)=>match ri v vs cs with
   |some id=>some id
   |none=>c7T s v r
  | _=>c7T s v r
noncomputable def St.rL(s:St):AV->AV
 | .iv (.v v)=>match c7T s.hp v s.hp with
  |some id=> .mpr id
  |none=> .iv (.v v)
 |x=>x
theorem c8T{v:Value}:∀{vs:List Value} {cs:List AV} {id:Nat},ri v vs cs=some id->∃i:Nat,vs[i]? =some v/\cs[i]? =some (AV.mpr id)
 | [],_,_,h=>by simp[ri]at h
 | _::_,[],_,h=>by simp[ri]at h
 |u::vs,c::cs,id,h=>by
  unfold ri at h;split at h
  ·split at h
   ·rename_i e;subst e;cases h;exact⟨0,rfl,rfl⟩
   ·obtain⟨i,h1,h2⟩:=c8T h;exact⟨i+1,by simpa using h1,by simpa using h2⟩
  ·obtain⟨i,h1,h2⟩:=c8T h;exact⟨i+1,by simpa using h1,by simpa using h2⟩
theorem c9T{s:Hp}{v:Value}:∀{r:Hp} {id:Nat},c7T s v r=some id->∃(g:Nat) (Z:GZ) (vs:List Value) (cs:List AV) (i:Nat),look s g=some (.gh Z vs cs)/\vs[i]? =some v/\cs[i]? =some (AV.mpr id)
 | [],_,h=>by simp[c7T]at h
 |(g,o)::r,id,h=>by
  unfold c7T at h;split at h
  ·rename_i Z vs cs hl;split at h
   ·rename_i XP hf;cases h;obtain⟨i,h1,h2⟩:=c8T hf;exact⟨g,Z,vs,cs,i,hl,h1,h2⟩
   ·exact c9T h
  ·exact c9T h
@[simp]theorem f5v{s:St}{id:Nat}:s.rL (.mpr id)= .mpr id:=rfl
def St.kill(id:Nat)(s:St):St:=
 let t:=s.ZQ (AV.kc (· ==id))
 {t with hp:=t.hp.filter (·.1 != id)}
def Ob.org?:Ob->Option Nat
 | .YU org _ _=>some org
 | _=>none
def XI(P:Program)(f:FuncId):Bool:=match P.funcs[f]? with
 |some fn=>fn.name != "runtime.NumGoroutine"&&fn.body.isSome
 |none=>false
def c0U(ops:Array Oper)(o:Oper):Option (Option (Nat×Bool)):=match o.guard with
 |none=>some none
 |some (j,b)=>((ops[j]?).bind (·.dst)).map fun d=>some (d,b)
def comp(P:Program)(o:Oper):Option Wu:=
 match o.op with
 | .move x| .assign x=>match x with
  | .const (.slice none 0 0)=>some (.Ix (f3Q P o.type))
  |x=>some (.Td x)
 | .pick c a b=>some (.pick c a b)
 | .alloc t=>(Q6 P t).map .alloc
 | .box _ x=>some (.box x)
 | .build t parts=>match P.underlying t with
  |some (.struct fs)=>if fs.all (fun f=>(X7 P f.type).isSome)then do
   let z<-Q6 P t
   let l<-parts.toList.mapM fun(p:Nat×Operand)=>do
    let f<-fs[p.1]?
    let n<-X7 P f.type
    pure (f.offset,n,p.2)
   pure (.build z l)
   else none
  |some (.array _ e)=>do
   let q<-X7 P e
   let z<-Q6 P t
   pure (.build z (parts.toList.map fun p=>(p.1*q,q,p.2)))
  | _=>none
 | .buildSlice t len parts=>match P.underlying t with
  |some (.slice e)=>do
   let sz<-X7 P e
   if parts.size=len/\(parts.toList.map (·.1))=a0I len/\0<sz/\len*sz<=2^24 then do
    let _<-Q6 P e
    pure (.lit sz len parts.toList)
   else none
  | _=>none
 | .load t a=>do
  let _<-P.underlying t
  if XZ P t then(X7 P t).map fun n=> .ld a (some n)else pure (.ld a none)
 | .store t a x=>(X7 P t).map fun n=> .st a x n
 | .nilCheck x=>some (.sb x)
 | .binOp op xt x y _=>match P.underlying xt with
  |some (.int _)|some .string=>some (.bin op x y)
  |some .bool=>match op with
   | .eql=>some (.beq false x y)
   | .neq=>some (.beq true x y)
   | _=>none
  |some (.pointer _)=>match op with
   | .eql=>some (.peq false x y)
   | .neq=>some (.peq true x y)
   | _=>none
  |some (.slice _)=>match op,y with
   | .eql, .const (.slice none 0 0)=>some (.Qg false x)
   | .neq, .const (.slice none 0 0)=>some (.Qg true x)
   | _,_=>none
  |some (.struct _)=>if P.eqGuardType P.depth xt=false then(Sd P 20 xt).bind fun ks=>if X7 P xt≠some ks.length then none else match op with
   | .eql=>some (.eqs false ks x y)
   | .neq=>some (.eqs true ks x y)
   | _=>none
   else none
  | _=>none
 | .unOp op _ x=>some (.un op x)
 | .convert s d x=>match P.underlying s,P.underlying d with
  |some (.int _),some (.int k)=>some (.cvt k x)
  | _,_=>none
 | .makeFunc (.func f) first caps=>some (.V6 f first.toList caps.toList)
 | .makeMap t none=>match P.underlying t with
  |some (.map k e)=>(Nt P k e).map .XD
  | _=>none
 | .makeSlice t l c=>match P.underlying t with
  |some (.slice e)=>do
   let i<-P.info? e
   let z<-Q6 P e
   if z.length=i.size/\0<i.size then pure (.mks i.size i.bytes z l c)else none
  | _=>none
 | .slice t x lo hi none=>match P.underlying t with
  |some (.slice e)=>(X7 P e).map fun sz=> .cut sz x lo hi
  | _=>none
 | .fieldAddr st x f=>match P.underlying st with
  |some (.struct fs)=>do
   let f<-fs[f]?
   let n<-X7 P f.type
   if n=0 then none else pure (.fa f.offset x)
  | _=>none
 | .field st x f=>match P.underlying st with
  |some (.struct fs)=>do
   let f<-fs[f]?
   let n<-X7 P f.type
   let _<-P.underlying f.type
   pure (.WJ f.offset (if XZ P f.type then some n else none) x)
  | _=>none
 | .indexAddr t x i=>match P.underlying t with
  |some (.slice e)=>(X7 P e).map fun sz=> .ia sz x i
  | _=>none
 | .index t x i=>match P.underlying t with
  |some .string=>some (.is x i)
  |some (.array n e)=>if X7 P e=some 1/\XZ P e=false/\(P.underlying e).isSome=true then some (.ix n x i)else none
  | _=>none
 | .lookup t m k ok=>match P.underlying t with
  |some (.map k' e)=>do
   let sk<-Nt P k' e
   let z<-Q6 P e
   if((P.info? e).bind (·.zero)).map SU=some (XZ P e)then pure (.UT sk z m k ok)else none
  | _=>none
 | .mapEntry t m k=>match P.underlying t with
  |some (.map k' e)=>do
   let sk<-Nt P k' e
   let z<-Q6 P e
   if((P.info? e).bind (·.zero)).map SU=some (XZ P e)then pure (.JN sk z m k)else none
  | _=>none
 | .entryStore _ m st x=>some (.est m st x)
 | .range t x=>match P.underlying t with
  |some (.map k e)=>(Nt P k e).map fun sk=> .QY sk x
  | _=>none
 | .next it false=>some (.nxt it)
 | .entry it=>some (.S7 it)
 | .mapUpdate t m k x| .insert t m k x=>match P.underlying t with
  |some (.map k' e)=>(Nt P k' e).map fun sk=> .YI sk m k x
  | _=>none
 | .extract x i=>some (.ext i x)
 | .call c=>match c.callee with
  | .value (.func f)=>if XI P f then some (.call f c.args.toList)else none
  | .value x=>some (.Yz x c.args.toList)
  | .builtin .len=>match c.args.toList,c.argTypes.toList with
   | [x],[t]=>match P.underlying t with
    |some (.slice _)=>some (.len x)
    |some .string=>some (.lens x)
    |some (.map _ _)=>some (.Ho x)
    | _=>none
   | _,_=>none
  | .builtin .append=>match c.args.toList,c.argTypes.toList with
   | [x,y],[t,u]=>match P.underlying t,P.underlying u with
    |some (.slice e),some (.slice _)=>(P.info? e).bind fun i=>i.zero.bind fun z=>if z.cells.size=i.size then some (.app i.size i.bytes x y)else none
    | _,_=>none
   | _,_=>none
  | .builtin .min=>some (.mm false c.args.toList)
  | .builtin .max=>some (.mm true c.args.toList)
  | .builtin .delete=>match c.args.toList,c.argTypes.toList with
   | [m,k],t::_=>match P.underlying t with
    |some (.map k' e)=>(Nt P k' e).map fun sk=> .Hq sk m k
    | _=>none
   | _,_=>none
  | .builtin .copy=>match c.args.toList,c.argTypes.toList with
   | [x,y],t::_=>match P.underlying t with
    |some (.slice e)=>(X7 P e).map fun sz=> .cpy sz x y
    | _=>none
   | _,_=>none
  | .builtin .clear=>match c.args.toList,c.argTypes.toList with
   | [x],t::_=>match P.underlying t with
    |some (.slice e)=>(P.info? e).bind fun i=>(Q6 P e).bind fun z=>if z.length=i.size then some (.clr i.size z x)else none
    | _=>none
   | _,_=>none
  | _=>none
 | _=>none
def Ob.T5:Ob->Option (Nat×List (List IV))
 | .list sz xs=>some (sz,xs)
 | .YU _ sz xs=>some (sz,xs)
 | _=>none
def Ob.Xu(o:Ob)(sz:Nat)(xs:List (List IV)):Ob:=match o with
 | .YU org _ _=> .YU org sz xs
 | _=> .list sz xs
theorem c1U{A:Nat->Prop}{ψ:Pl}{H:Hp}{w:World}{id sz:Nat}{xs:List (List IV)}{o:Ob}(he:o.T5=some (sz,xs))(h:Xa A ψ H w id o):Xa A ψ H w id (.list sz xs):=by
 cases o<;>simp only[Ob.T5,a5y,a6J]at he<;>first|(obtain⟨rfl,rfl⟩:=he;exact h)|cases he
theorem c2U{A:Nat->Prop}{ψ:Pl}{H:Hp}{w:World}{id sz ZB:Nat}{xs ys:List (List IV)}{o:Ob}(he:o.T5=some (ZB,ys))(h:Xa A ψ H w id (.list sz xs)):Xa A ψ H w id (o.Xu sz xs):=by
 cases o<;>first|exact h|cases he
theorem c3U{o:Ob}{sz:Nat}{xs:List (List IV)}(he:o.T5=some (sz,xs)):o.dim=some (sz,xs.length):=by
 cases o<;>simp only[Ob.T5,a5y,a6J]at he<;>first|(obtain⟨rfl,rfl⟩:=he;rfl)|cases he
theorem c4U{o:Ob}{sz ZB:Nat}{xs ys:List (List IV)}(he:o.T5=some (ZB,ys)):(o.Xu sz xs).dim=some (sz,xs.length):=by
 cases o<;>first|rfl|cases he
theorem c5U{o:Ob}{sz ZB id:Nat}{xs ys:List (List IV)}(he:o.T5=some (ZB,ys)):(o.Xu sz xs).org id=o.org id:=by
 cases o<;>first|rfl|cases he
theorem c6U{o:Ob}{sz:Nat}{xs:List (List IV)}(he:o.T5=some (sz,xs)):o.multi=false:=by
 cases o<;>first|rfl|cases he
def Is(n:Nat):Option Nat->Bool
 |some d=>decide (d<n)
 |none=>true
def ME(P:Program)(n:Nat)(ops:Array Oper)(o:Oper):Option Yv:=do
 let g<-c0U ops o
 let r<-comp P o
 if Is n o.dst then pure ⟨o.dst,g,r⟩else none
def AV.cellsOf:AV->Option (List AV)
 | .agg cs=>some cs
 | .Zp _=>none
 | .un=>none
 | .junk=>none
 |x=>some [x]
def AV.one:AV->Bool
 | .agg _| .Zp _| .un| .junk=>false
 | _=>true
def Zc{α:Type}(z:List α)(off:Nat)(cs:List α):List α:=z.take off++cs++z.drop (off+cs.length)
def AV.iv?:AV->Option IV
 | .iv x=>some x
 | .nil sz=>some (.Z6 sz [])
 | _=>none
def St.ivOf(s:St):AV->Option IV
 | .iv x=>some x
 | .nil sz=>some (.Z6 sz [])
 | .sl id sz lo len=>match look s.hp id with
  |some (.list ZB xs)=>if ZB=sz then some (.Z6 sz ((xs.drop lo).take len))else none
  | _=>none
 | _=>none
def St.pure1(s:St)(x:AV):AV:=match s.ivOf x with|some y=> .iv y|none=>x
def St.pure(s:St):AV->AV
 | .agg cs=> .agg (cs.map s.pure1)
 |x=>s.pure1 x
def AV.ids:AV->List Nat
 | .sl id _ _ _=>[id]
 | .mpr id=>[id]
 | .agg cs=>cs.flatMap fun| .sl id _ _ _=>[id]| .mpr id=>[id]| _=>[]
 | _=>[]
def St.Y9(s:St)(xs:List AV):St:=(xs.flatMap AV.ids).foldl (fun s id=>if id<1000 then s.drop id else s) s
def c9U(op:BinOp)(k:IntKind)(x y:Int):Int:=
 let a:=BitVec.ofInt k.bits x
 let b:=BitVec.ofInt k.bits y
 match op with
 | .and=>k.wrap (a&&& b).toNat
 | .or=>k.wrap (a|||b).toNat
 | .xor=>k.wrap (a^^^b).toNat
 | _=>k.wrap (a&&& ~~~b).toNat
def c0V(op:BinOp)(k:IntKind)(x y:Int):Int:=
 match op with
 | .shl=>k.wrap (x*2^(min y.toNat k.bits))
 | _=>x.fdiv (2^(min y.toNat k.bits))
def oB(a b:ByteArray):Bool:=a.toList==b.toList
def UI(a b:ByteArray):Bool:=Op.bytesLess a.toList b.toList
def P1(op:BinOp)(k:IntKind)(a b:Int):Option Value:=
 match op with
 | .add=>some (.int k (k.wrap (a+b)))
 | .sub=>some (.int k (k.wrap (a-b)))
 | .mul=>some (.int k (k.wrap (a*b)))
 | .quo=>if b=0 then none else some (.int k (k.wrap (a.tdiv b)))
 | .rem=>if b=0 then none else some (.int k (a.tmod b))
 | .eql=>some (.bool (a==b))
 | .neq=>some (.bool (a != b))
 | .lss=>some (.bool (decide (a<b)))
 | .leq=>some (.bool (decide (a<=b)))
 | .gtr=>some (.bool (decide (a>b)))
 | .geq=>some (.bool (decide (a≥b)))
 | .and=>some (.int k (c9U .and k a b))
 | .or=>some (.int k (c9U .or k a b))
 | .xor=>some (.int k (c9U .xor k a b))
 | .andNot=>some (.int k (c9U .andNot k a b))
 | .shl=>none
 | .shr=>none
def oC(op:BinOp)(a b:ByteArray):Option Value:=
 match op with
 | .eql=>some (.bool (oB a b))
 | .neq=>some (.bool (!oB a b))
 | .lss=>some (.bool (UI a b))
 | .leq=>some (.bool (UI a b||oB a b))
 | .gtr=>some (.bool (!(UI a b||oB a b)))
 | .geq=>some (.bool (!UI a b))
 | _=>none
def YY(op:BinOp):Value->Value->Option Value
 | .int j a, .int k b=>match op with
  | .shl=>if b<0 then none else some (.int j (c0V .shl j a b))
  | .shr=>if b<0 then none else some (.int j (c0V .shr j a b))
  |op=>if j=k then P1 op j a b else none
 | .string a, .string b=>oC op a b
 | _,_=>none
def unV(op:UnOp):Value->Option Value
 | .int k a=>match op with
  | .neg=>some (.int k (k.wrap (0-a)))
  | _=>none
 | .bool b=>match op with
  | .not=>some (.bool (!b))
  | _=>none
 | _=>none
def IJ:Kd->Value->Value->Option Bool
 | .b, .bool a, .bool b=>some (a==b)
 | .i _, .int j a, .int k b=>if j=k then some (a==b)else none
 | .s, .string a, .string b=>some (a==b)
 | _,_,_=>none
def Ug:List Kd->List AV->List AV->Option Bool
 | [],[],[]=>some true
 |t::ks, .iv (.v a)::r, .iv (.v b)::q=>(IJ t a b).bind fun x=>(Ug ks r q).map fun y=>x&&y
 | _,_,_=>none
def Et(mx:Bool)(k:IntKind)(n:Int):List AV->Option (IntKind×Int)
 | []=>some (k,n)
 | .iv (.v (.int _ m))::r=>Et mx k (if mx then max n m else min n m) r
 | _=>none
def c6V(mx:Bool):List AV->Option (IntKind×Int)
 | .iv (.v (.int k n))::r=>Et mx k n r
 | _=>none
def AV.cap:AV->Option Z3
 | .ptr id off=>some (.ptr id off)
 | .iv x=>some (.val x)
 | .nil sz=>some (.val (.Z6 sz []))
 | _=>none
def Z3.av:Z3->AV
 | .ptr id off=> .ptr id off
 | .val x=> .iv x
def St.bound(s:St)(d:Nat):Option Operand->Option Int
 |none=>some d
 |some x=>match s.ev x with
  | .iv (.v (.int _ n))=>some n
  | _=>none
def St.elems(s:St):AV->Option (Nat×List (List IV))
 | .iv (.Z6 sz xs)=>some (sz,xs)
 | .nil sz=>some (sz,[])
 | .sl id sz lo len=>match look s.hp id with
  |some o=>match o.T5 with
   |some (_,xs)=>some (sz,(xs.drop lo).take len)
   |none=>none
  |none=>none
 | _=>none
end Go.Vm
end

section
namespace Go.Vm
structure RJ (w w':World):Prop where
 os:w'.os=w.os
 tape:w'.tape=w.tape
 output:w'.output=w.output
 drawn:w.drawn<=w'.drawn
def ZU(P:Program)(fr:Bool)(f:FuncId)(args:List AV)(H:Hp)(res:AV)(H':Hp):Prop:=
 ((
  ∀id o,look H id=some o->o.Zl=false)/\∀id o,look H' id=some o->o.Zl=false)/\∀(A:Nat->Prop) (ψ:Pl) (w:World) (vs:List Value),(∀b,A b->b<w.heap.size)->
  (∀id o,look H id=some o->Xa A ψ H w id o)->
  (∀id XP o o' b,look H id=some o->look H XP=some o'->Z2 ψ id b->Z2 ψ XP b->id=XP)->Uv ψ H w->
  (∀b,ZD ψ H b->¬A b)->vs.length=args.length->(∀i x,args[i]? =some x->ZK A ψ H w x (vs.getD i undef))->
  Calls P f vs.toArray w fun e w'=>∃v ZF,e= .returned v∧
   (∀b,b<w.heap.size->¬ZD ψ H b->w'.heap[b]? =w.heap[b]?)/\w.heap.size<=w'.heap.size/\RJ w w'∧
   (∀id o,look H id=some o->ZF id=ψ id)∧
   (∀id o b,look H' id=some o->Z2 ZF id b->(∃o0,look H id=some o0/\Z2 ψ id b)\/w.heap.size<=b)∧
   (∀id XP o o' b,look H' id=some o->look H' XP=some o'->Z2 ZF id b->Z2 ZF XP b->id=XP)/\Uv ZF H' w'∧
   (∀id o,look H' id=some o->Xa (fun b=>((fr=false/\A b)\/w.heap.size<=b)/\¬ZD ZF H' b) ZF H' w' id o)∧
   ZK (fun b=>((fr=false/\A b)\/w.heap.size<=b)/\¬ZD ZF H' b) ZF H' w' res v
def Ng(P:Program)(fr:Bool)(f:FuncId)(args:List AV)(H:Hp)(R:AV->Hp->Prop):Prop:=
 ((
  ∀id o,look H id=some o->o.Zl=false)/\∀res H',R res H'->∀id o,look H' id=some o->o.Zl=false)/\∀(A:Nat->Prop) (ψ:Pl) (w:World) (vs:List Value),(∀b,A b->b<w.heap.size)->
  (∀id o,look H id=some o->Xa A ψ H w id o)->
  (∀id XP o o' b,look H id=some o->look H XP=some o'->Z2 ψ id b->Z2 ψ XP b->id=XP)->Uv ψ H w->
  (∀b,ZD ψ H b->¬A b)->vs.length=args.length->(∀i x,args[i]? =some x->ZK A ψ H w x (vs.getD i undef))->
  Calls P f vs.toArray w fun e w'=>∃v ZF res H',R res H'/\e= .returned v∧
   (∀b,b<w.heap.size->¬ZD ψ H b->w'.heap[b]? =w.heap[b]?)/\w.heap.size<=w'.heap.size/\RJ w w'∧
   (∀id o,look H id=some o->ZF id=ψ id)∧
   (∀id o b,look H' id=some o->Z2 ZF id b->(∃o0,look H id=some o0/\Z2 ψ id b)\/w.heap.size<=b)∧
   (∀id XP o o' b,look H' id=some o->look H' XP=some o'->Z2 ZF id b->Z2 ZF XP b->id=XP)/\Uv ZF H' w'∧
   (∀id o,look H' id=some o->Xa (fun b=>((fr=false/\A b)\/w.heap.size<=b)/\¬ZD ZF H' b) ZF H' w' id o)∧
   ZK (fun b=>((fr=false/\A b)\/w.heap.size<=b)/\¬ZD ZF H' b) ZF H' w' res v
theorem ZU.n{P:Program}{fr:Bool}{f:FuncId}{args:List AV}{H:Hp}{res:AV}{H':Hp}(h:ZU P fr f args H res H'):Ng P fr f args H (fun r K=>r=res/\K=H'):=
 ⟨⟨h.1.1,fun r K e=>by obtain⟨rfl,rfl⟩:=e;exact h.1.2⟩,fun A ψ w vs a b c d e f g=>(h.2 A ψ w vs a b c d e f g).mono fun e w' ⟨v,ZF,q⟩=>⟨v,ZF,res,H',⟨rfl,rfl⟩,q⟩⟩
theorem Ng.one{P:Program}{fr:Bool}{f:FuncId}{args:List AV}{H:Hp}{res:AV}{H':Hp}{R:AV->Hp->Prop}(h:Ng P fr f args H R)(hR:∀r K,R r K->r=res/\K=H')
 (hl:∀id o,look H' id=some o->o.Zl=false):ZU P fr f args H res H':=
 ⟨⟨h.1.1,hl⟩,fun A ψ w vs a b c d e f g=>(h.2 A ψ w vs a b c d e f g).mono fun e w' ⟨v,ZF,r,K,hr,q⟩=>by obtain⟨rfl,rfl⟩:=hR r K hr;exact⟨v,ZF,q⟩⟩
def Le(s s':St):Prop:=∀E n a w,Un E n s a w->Un E n s' a w
def Jk(s:St)(F:St->Prop):Prop:=∀E n a w,Un E n s a w->∃s',F s'/\Un E n s' a w
theorem Le.x{s s':St}{F:St->Prop}(h:Le s s')(hF:F s'):Jk s F:=fun E n a w hs=>⟨s',hF,h E n a w hs⟩
theorem Jk.le{s s':St}{F:St->Prop}(h:Le s s')(k:Jk s' F):Jk s F:=fun E n a w hs=>k E n a w (h E n a w hs)
theorem Le.refl(s:St):Le s s:=fun _ _ _ _ h=>h
theorem Le.trans{s t u:St}(h:Le s t)(k:Le t u):Le s u:=fun E n a w hs=>k E n a w (h E n a w hs)
theorem b4S{α:Type}(l r:List (Nat×α))(k:Nat):look (l++r) k=(look l k).or (look r k):=by
 induction l with
 |nil=>simp[look]
 |cons p l ih=>obtain⟨j,x⟩:=p;simp only[c6h,look];split<;>simp[ih]
def St.join(s:St)(H:Hp):St:=⟨s.fr,H++s.hp⟩
theorem b5S(vs:List Value)(i:Nat):vs.toArray.getD i undef=vs.getD i undef:=by
 simp[a4E,a7V]
def Z3.Xq(ids:List Nat):Z3->Bool
 | .ptr id _=>ids.contains id
 | .val _=>true
def AV.Xq(ids:List Nat):AV->Bool
 | .iv _=>true
 | .nil _=>true
 | .sl id _ _ _=>ids.contains id
 | .ptr id _=>ids.contains id
 | .ep id _ _ _=>ids.contains id
 | .mpr id=>ids.contains id
 | .fn _ a b=>a.all (Z3.Xq ids)&&b.all (Z3.Xq ids)
 | .agg _=>false
 | .Zp _=>false
 | .un=>true
 | .junk=>true
def AV.YO(ids:List Nat):AV->Bool
 | .agg cs=>cs.all (AV.Xq ids)
 |x=>x.Xq ids
theorem Xg.restrict{A A':Nat->Prop}{ψ:Pl}{H H':Hp}{w:World}{c:Z3}{v:Value}(h:Xg A ψ H w c v){ids:List Nat}(hi:c.Xq ids=true)
 (hA:∀b,b<w.heap.size->A b->A' b) (hH:∀id o,ids.contains id=true->look H id=some o->look H' id=some o):Xg A' ψ H' w c v:=by
 cases h with
 |ptr id off b k o ho hb=>exact .ptr id off b k o (hH id o hi ho) hb
 |val x v h1=>exact .val x v (h1.mono hA (fun _ _ _=>rfl))
theorem ZK.Va{A A':Nat->Prop}{ψ:Pl}{H H':Hp}{w:World}{x:AV}{v:Value}(h:ZK A ψ H w x v){ids:List Nat}(hi:x.Xq ids=true)
 (hA:∀b,b<w.heap.size->A b->A' b) (hH:∀id o,ids.contains id=true->look H id=some o->look H' id=some o):ZK A' ψ H' w x v:=by
 cases h with
 |iv x v h=>exact .iv x v (h.mono hA (fun _ _ _=>rfl))
 |nil sz=>exact .nil sz
 |U4 id sz o n ho he hb=>exact .U4 id sz o n (hH id _ hi ho) he hb
 |sl id sz lo len b k cap a o n ho he hx hb ha UO hk hm=>exact .sl id sz lo len b k cap a o n (hH id _ hi ho) he hx hb ha UO hk hm
 |ptr id off b k o ho hb=>exact .ptr id off b k o (hH id o hi ho) hb
 |ep id sz i off b k o n ho he VZ hb=>exact .ep id sz i off b k o n (hH id _ hi ho) he VZ hb
 |mpr id b k o ho hb=>exact .mpr id b k o (hH id o hi ho) hb
 |fn f first caps vf vc hf hc h1 h2=>
  simp only[AV.Xq,a4C,a0E]at hi;exact .fn f first caps vf vc hf hc (fun i c h=>(h1 i c h).restrict (hi.1 c (a8y h)) hA hH) (fun i c h=>(h2 i c h).restrict (hi.2 c (a8y h)) hA hH)
 |agg cs vs hl h=>cases hi
 |Zp cs vs hl h=>cases hi
 |un=>exact .un
 |junk v=>exact .junk v
theorem ZK.restrict{A A':Nat->Prop}{ψ:Pl}{H H':Hp}{w:World}{x:AV}{v:Value}(h:ZK A ψ H w x v){ids:List Nat}(hi:x.YO ids=true)
 (hA:∀b,b<w.heap.size->A b->A' b) (hH:∀id o,ids.contains id=true->look H id=some o->look H' id=some o):ZK A' ψ H' w x v:=by
 cases x with
 |agg cs=>
  cases h with
  |agg cs vs hl h=>
   simp only[AV.YO,a0E]at hi
   exact .agg cs vs hl fun i c hc=>(h i c hc).Va (hi c (a8y hc)) hA hH
 | _=>exact h.Va hi hA hH
def Ob.YO(ids:List Nat):Ob->Bool
 | .box cs=>cs.all (AV.Xq ids)
 | .gh _ _ cs=>cs.all (AV.Xq ids)
 | _=>true
theorem Xa.restrict{A A':Nat->Prop}{ψ:Pl}{H H':Hp}{w:World}{id:Nat}{o:Ob}(h:Xa A ψ H w id o){ids:List Nat}(hi:o.YO ids=true)
 (hA:∀b,b<w.heap.size->A b->A' b) (hH:∀id o,ids.contains id=true->look H id=some o->look H' id=some o):Xa A' ψ H' w id o:=by
 cases o with
 |box cs=>
  obtain⟨b,c,e,h1,h2,h3,h4⟩:=h;simp only[Ob.YO,a0E]at hi;exact⟨b,c,e,h1,h2,h3,fun i x hx=>(h4 i x hx).Va (hi x (a8y hx)) hA hH⟩
 |list sz xs=>
  obtain⟨h0,h⟩:=h;refine⟨h0,?_⟩
  rcases h with h|⟨b,k,c,e,h1,h2,h3,Te,h4⟩
  ·exact .inl h
  ·exact .inr ⟨b,k,c,e,h1,h2,h3,Te,fun i j x hx=>(h4 i j x hx).mono hA (fun _ _ _=>rfl)⟩
 |map sk g=>obtain⟨b,es,clock,h1,h2,h3,m⟩:=h;exact⟨b,es,clock,h1,h2,h3,m.mono hA (fun _ _ _=>rfl)⟩
 |WT sk g n kk=>obtain⟨b,es,clock,h1,h2,h3,m,h4⟩:=h;exact⟨b,es,clock,h1,h2,h3,m.mono hA (fun _ _ _=>rfl),h4⟩
 |YU org sz xs=>
  obtain⟨h0,h⟩:=h;refine⟨h0,?_⟩
  rcases h with h|⟨b,k,c,e,h1,h2,h3,Te,h4⟩
  ·exact .inl h
  ·exact .inr ⟨b,k,c,e,h1,h2,h3,Te,fun i j x hx=>(h4 i j x hx).mono hA (fun _ _ _=>rfl)⟩
 |YJ sk sz g hole=>
  obtain⟨b,es,clock,pl,h1,h2,h3,h4,h5,h6,h7,h8,h9,U0,TD⟩:=h;refine⟨b,es,clock,pl,h1,h2,h3,h4,h5,h6,h7,h8,fun k xs hg=>?_,U0,TD⟩;obtain⟨e,g1,g2,g3⟩:=h9 k xs hg;exact⟨e,g1,g2,g3.mono hA (fun _ _ _=>rfl) fun _ _ _=>rfl⟩
 |ZI sz xs hole=>
  obtain⟨h0,b,k,c,e,pl,h1,h2,h3,h4,h5,h6,h7⟩:=h;exact⟨h0,b,k,c,e,pl,h1,h2,h3,h4,fun i x g1 g2=>(h5 i x g1 g2).mono hA (fun _ _ _=>rfl) fun _ _ _=>rfl,h6,h7⟩
 |iter sk g left last=>
  obtain⟨b,m,since,stamps,YG,h1,h2,h3⟩:=h;refine⟨b,m,since,stamps,YG,h1,h2,?_⟩
  rcases h3 with h3|⟨bm,es,g1,g2,g3,g4,g5,g6,g7⟩
  ·exact .inl h3
  ·exact .inr ⟨bm,es,g1,hA bm (VJ g3) g2,g3,g4,g5,g6.mono hA (fun _ _ _=>rfl),g7⟩
 |gh Z vs cs=>
  obtain⟨h1,h2,h3,h4⟩:=h;simp only[Ob.YO,a0E]at hi;exact⟨h1,h2.mono hA (fun _ h=>h) (fun _ _ _=>rfl) (fun _ _=>rfl),h3,fun i x hx=>(h4 i x hx).Va (hi x (a8y hx)) hA hH⟩
def Zm{α β:Type}(f:α->Option β):List α->Option (List β)
 | []=>some []
 |x::r=>match f x with
  |some y=>(Zm f r).map fun l=>y::l
  |none=>none
def St.WE(s:St)(ids:List Nat):Nat->AV->Option IV
 | _, .iv x=>some x
 | _, .nil sz=>some (.Z6 sz [])
 | _, .sl id sz lo len=>if ids.contains id then none else match look s.hp id with
  |some (.list _ xs)=>some (.Z6 sz ((xs.drop lo).take len))
  |some (.ZI ZB xs none)=>some (.Z6 1 (((xs.map fun x=>[IV.Z6 ZB x]).drop lo).take len))
  | _=>none
 | _, .mpr id=>if ids.contains id then none else match look s.hp id with
  |some (.map sk g)=>some (.mp sk g)
  |some (.YJ sk sz g none)=>some (.mp sk fun k=>(g k).map fun xs=>[IV.Z6 sz xs])
  | _=>none
 |d+1, .ptr id off=>if ids.contains id then none else match look s.hp id with
  |some (.box cs)=>(Zm (St.WE s ids d) cs).map fun l=> .pt (l.drop off)
  | _=>none
 | _,_=>none
def Z3.EN(s:St)(ids:List Nat):Z3->Z3
 | .ptr id off=>match s.WE ids 3 (.ptr id off)with
  |some y=> .val y
  |none=> .ptr id off
 | .val x=> .val x
def St.arg1(s:St)(fr:Bool)(ids:List Nat):AV->AV
 | .iv x=> .iv x
 | .nil sz=> .iv (.Z6 sz [])
 | .fn f a b=>if fr&& !((AV.fn f a b).Xq ids)then .fn f (a.map (Z3.EN s ids)) (b.map (Z3.EN s ids))else .fn f a b
 |x=>if fr&& !(x.Xq ids)then match s.WE ids 3 x with
  |some y=> .iv y
  |none=>x
  else x
def St.arg(s:St)(fr:Bool)(ids:List Nat):AV->AV
 | .agg cs=> .agg (cs.map (s.arg1 fr ids))
 |x=>s.arg1 fr ids x
structure Nf (P:Program) (fr:Bool) (f:FuncId) (args:List AV) (H:Hp) (res:AV) (H':Hp) (s:St):Prop where
 spec:ZU P fr f args H res H'
 refs:args.all (AV.YO (H.map (·.1)))=true
 sub:∀id o,look H id=some o->look s.hp id=some o
 own:∀id o,look H id=some o->o.YO (H.map (·.1))=true
 keep:∀id o,look H id=some o->∃o',look H' id=some o'/\o.le o'
 new:∀id o,look H' id=some o->look H id=none->look s.hp id=none/\id<1000
structure Sz (P:Program) (fr:Bool) (f:FuncId) (args:List AV) (H:Hp) (R:AV->Hp->Prop) (s:St):Prop where
 spec:Ng P fr f args H R
 refs:args.all (AV.YO (H.map (·.1)))=true
 sub:∀id o,look H id=some o->look s.hp id=some o
 own:∀id o,look H id=some o->o.YO (H.map (·.1))=true
 keep:∀res H',R res H'->∀id o,look H id=some o->∃o',look H' id=some o'/\o.le o'
 new:∀res H',R res H'->∀id o,look H' id=some o->look H id=none->look s.hp id=none/\id<1000
theorem Nf.n{P:Program}{fr:Bool}{f:FuncId}{args:List AV}{H:Hp}{res:AV}{H':Hp}{s:St}(h:Nf P fr f args H res H' s):Sz P fr f args H (fun r K=>r=res/\K=H') s:=
 ⟨h.spec.n,h.refs,h.sub,h.own,fun r K e=>by obtain⟨rfl,rfl⟩:=e;exact h.keep,fun r K e=>by obtain⟨rfl,rfl⟩:=e;exact h.new⟩
theorem Ep{α:Type}{l:List (Nat×α)}{k:Nat}{x:α}(h:look l k=some x):(l.map (·.1)).contains k=true:=by
 induction l with
 |nil=>cases h
 |cons p l ih=>
  obtain⟨j,y⟩:=p;simp only[look]at h;split at h
  ·subst_vars;simp
  ·have:=ih h;simp at this⊢;exact .inr this
theorem b7S{α:Type}{l:List (Nat×α)}{k:Nat}(h:(l.map (·.1)).contains k=true):∃x,look l k=some x:=by
 induction l with
 |nil=>simp at h
 |cons p l ih=>
  obtain⟨j,y⟩:=p;simp only[look]
  by_cases e:j=k
  ·exact⟨y,by rw[if_pos e]⟩
  ·rw[if_neg e];refine ih ?_;simp at h⊢
   rcases h with h|h
   ·exact absurd h.symm e
   ·exact h
section
variable{P:Program}{E:En}{n:Nat}{ψ:Pl}{s:St}{a:Act}{w:World}
structure GK (H H':Hp) (s:St):Prop where
 YU:∀id o,look H id=some o->o.Zl=false
 f4j:∀id o,look H' id=some o->o.Zl=false
 sub:∀id o,look H id=some o->look s.hp id=some o
 keep:∀id o,look H id=some o->∃o',look H' id=some o'/\o.le o'
 new:∀id o,look H' id=some o->look H id=none->look s.hp id=none/\id<1000
theorem Sz.sh{P:Program}{fr:Bool}{f:FuncId}{args:List AV}{H:Hp}{R:AV->Hp->Prop}{s:St}(hc:Sz P fr f args H R s){res:AV}{H':Hp}(hR:R res H'):GK H H' s:=
 ⟨hc.spec.1.1,hc.spec.1.2 res H' hR,hc.sub,hc.keep res H' hR,hc.new res H' hR⟩
theorem Z7.called(h:Z7 E n ψ s a w){fr:Bool}{H:Hp}{res:AV}{H':Hp}(hc:GK H H' s){A:Nat->Prop}
 (hAI:fr=false->∀b,A b->Im E ψ s.hp b) {w':World} {v:Value} {ZF:Pl}
 (k1:∀b,b<w.heap.size->¬ZD ψ H b->w'.heap[b]? =w.heap[b]?) (k2:w.heap.size<=w'.heap.size) (k3:RJ w w')
 (k4:∀id o,look H id=some o->ZF id=ψ id)
 (k5:∀id o b,look H' id=some o->Z2 ZF id b->(∃o0,look H id=some o0/\Z2 ψ id b)\/w.heap.size<=b)
 (k6:∀id XP o o' b,look H' id=some o->look H' XP=some o'->Z2 ZF id b->Z2 ZF XP b->id=XP) (kS:Uv ZF H' w')
 (k7:∀id o,look H' id=some o->Xa (fun b=>((fr=false/\A b)\/w.heap.size<=b)/\¬ZD ZF H' b) ZF H' w' id o)
 (k8:ZK (fun b=>((fr=false/\A b)\/w.heap.size<=b)/\¬ZD ZF H' b) ZF H' w' res v):
 ∃Zn,Z7 E n Zn (s.join H') a w'/\ZK (Im E Zn (s.join H').hp) Zn (s.join H').hp w' res v:=by
 let Zn:Pl:=⟨fun id=>if(look H' id).isSome then ZF id else ψ id,fun id b=>if(look H' id).isSome then ZF.sub id b else ψ.sub id b⟩
 have Xw:∀id,look (s.join H').hp id=(look H' id).or (look s.hp id):=fun id=>b4S _ _ _
 have ZV:∀{k o b},look s.hp k=some o->Z2 ψ k b->b<w.heap.size:=fun hk hb=>h.lt hk hb
 have o1:∀{id o b},look H' id=some o->(Z2 Zn id b↔Z2 ZF id b):=by
  intro id o b ho;simp[Z2,Zn,ho]
 have o2:∀{id b},look H' id=none->(Z2 Zn id b↔Z2 ψ id b):=by
  intro id b ho;simp[Z2,Zn,ho]
 have Vj:∀{id o},look (s.join H').hp id=some o->(look H' id=some o/\∀b,Z2 Zn id b↔Z2 ZF id b)\/(look H' id=none/\look s.hp id=some o/\∀b,Z2 Zn id b↔Z2 ψ id b):=by
  intro id o ho;rw[Xw]at ho
  cases hh:look H' id with
  |some o'=>rw[hh]at ho;left;exact⟨by simpa using ho,fun b=>o1 hh⟩
  |none=>rw[hh]at ho;right;exact⟨rfl,by simpa using ho,fun b=>o2 hh⟩
 have GJ:Vt ψ Zn s.hp (s.join H').hp:=by
  intro id o ho
  cases hh:look H' id with
  |some o'=>
   cases hH:look H id with
   |some o0=>
    have e:=hc.sub id o0 hH;rw[ho]at e;cases e;obtain⟨o1,g1,g2⟩:=hc.keep id o hH;rw[hh]at g1;cases g1;exact⟨⟨o',by rw[Xw,hh];rfl,g2⟩,by simp[Zn,hh,k4 id o hH]⟩
   |none=>have:=(hc.new id o' hh hH).1;rw[ho]at this;cases this
  |none=>exact⟨⟨o,by rw[Xw,hh];simpa using ho,o.le_refl⟩,by simp[Zn,hh]⟩
 have f5j:∀{b},ZD ψ H b->ZD ψ s.hp b:=by
  rintro b ⟨id,o,ho,hb⟩;exact⟨id,o,hc.sub id o ho,hb⟩
 have f6j:∀{b},b<w.heap.size->ZD Zn (s.join H').hp b->ZD ψ s.hp b:=by
  rintro b hb ⟨id,o,ho,hq⟩
  rcases Vj ho with⟨g1,g2⟩|⟨_,g1,g2⟩
  ·rcases k5 id o b g1 ((g2 b).1 hq)with⟨o0,g3,g4⟩|g3
   ·exact⟨id,o0,hc.sub id o0 g3,g4⟩
   ·omega
  ·exact⟨id,o,g1,(g2 b).1 hq⟩
 have hI:∀b,b<w.heap.size->Im E ψ s.hp b->Im E Zn (s.join H').hp b:=fun b hb hi=>⟨hi.1,fun hh=>hi.2 (f6j hb hh)⟩
 have hw:∀b,b<w.heap.size->Im E ψ s.hp b->w'.heap[b]? =w.heap[b]? :=fun b hb hi=>k1 b hb fun hh=>hi.2 (f5j hh)
 have oE:∀b,b<w'.heap.size->(((fr=false/\A b)\/w.heap.size<=b)/\¬ZD ZF H' b)->Im E Zn (s.join H').hp b:=by
  rintro b hb ⟨h1,h2⟩
  rcases h1 with⟨hf,h1⟩|h1
  ·have hi:=hAI hf b h1;refine⟨hi.1,?_⟩;rintro⟨id,o,ho,hq⟩
   rcases Vj ho with⟨g1,g2⟩|⟨_,g1,g2⟩
   ·exact h2 ⟨id,o,g1,(g2 b).1 hq⟩
   ·exact hi.2 ⟨id,o,g1,(g2 b).1 hq⟩
  ·refine⟨.inr (.inr (a9L h.grow h1)),?_⟩;rintro⟨id,o,ho,hq⟩
   rcases Vj ho with⟨g1,g2⟩|⟨_,g1,g2⟩
   ·exact h2 ⟨id,o,g1,(g2 b).1 hq⟩
   ·have:=ZV g1 ((g2 b).1 hq);omega
 have GI:Vt ZF Zn H' (s.join H').hp:=by
  intro id o ho;exact⟨⟨o,by rw[Xw,ho];rfl,o.le_refl⟩,by simp[Zn,ho]⟩
 have R5:∀{id o b},look H' id=some o->Z2 ZF id b->(o.org id∈E.ids/\Z2 E.ψ (o.org id) b)\/E.fresh b:=by
  intro id o b ho hb
  have org:∀{o:Ob},o.Zl=false->o.org id=id:=by intro o h;cases o<;>first|rfl|cases h
  rcases k5 id o b ho hb with⟨o0,p1,p2⟩|p1
  ·have:=h.own id o0 b (hc.sub id o0 p1) p2;rw[org (hc.YU id o0 p1)]at this;rw[org (hc.f4j id o ho)];exact this
  ·exact .inr (.inr (a9L h.grow p1))
 refine⟨Zn,?_,k8.mono oE (fun _ _ _=>rfl) GI⟩;refine {size:=h.size,defers:=h.defers.mono hI hw,frame:=fun t=>(h.frame t).mono hI hw GJ,YH:=?_,inj:=?_,own:=?_,Y0:=?_,par:=?_,old:=?_,grow:=?_,same:=?_}
 ·intro id o ho
  rcases Vj ho with⟨g1,g2⟩|⟨g0,g1,g2⟩
  ·exact(k7 id o g1).mono oE (fun _ _ _=>rfl) GI ⟨by simp[Zn,g1],fun b hb=>by simpa[Zn,g1]using hb⟩ (fun _ _=>rfl)
  ·refine(h.YH id o g1).mono hI hw GJ ⟨by simp[Zn,g0],fun b hb=>by simpa[Zn,g0]using hb⟩ fun b hb=>k1 b (ZV g1 hb) ?_
   rintro⟨id2,o2,EC,QJ⟩;have e:=h.inj id id2 o _ b g1 (hc.sub id2 o2 EC) hb QJ;subst e;obtain⟨o3,g3,_⟩:=hc.keep id o2 EC;rw[g0]at g3;cases g3
 ·intro i i' o1 o2 b hi VZ hb XB
  rcases Vj hi with⟨g1,g2⟩|⟨g0,g1,g2⟩<;>rcases Vj VZ with⟨f1,f2⟩|⟨f0,f1,f2⟩<;>rw[g2]at hb<;>rw[f2]at XB
  ·exact k6 i i' o1 o2 b g1 f1 hb XB
  ·rcases k5 i o1 b g1 hb with⟨o0,p1,p2⟩|p1
   ·exact h.inj i i' _ _ b (hc.sub i o0 p1) f1 p2 XB
   ·have:=ZV f1 XB;omega
  ·rcases k5 i' o2 b f1 XB with⟨o0,p1,p2⟩|p1
   ·exact h.inj i i' _ _ b g1 (hc.sub i' o0 p1) hb p2
   ·have:=ZV g1 hb;omega
  ·exact h.inj i i' _ _ b g1 f1 hb XB
 ·intro i o1 b hi hb
  rcases Vj hi with⟨g1,g2⟩|⟨g0,g1,g2⟩<;>rw[g2]at hb
  ·exact R5 g1 hb
  ·exact h.own i o1 b g1 hb
 ·intro i o1 b hi hb
  rcases Vj hi with⟨g1,g2⟩|⟨g0,g1,g2⟩
  ·have hb:ZF.sub i b:=by simpa[Zn,g1]using hb
   obtain⟨q1,q2,q3⟩:=kS i o1 b g1 hb;exact⟨q1,q2,fun k=>by simpa[Zn,g1]using q3 k⟩
  ·have hb:ψ.sub i b:=by simpa[Zn,g0]using hb
   obtain⟨q1,q2,q3⟩:=h.Y0 i o1 b g1 hb;exact⟨q1,a4N q2 k2,fun k=>by simpa[Zn,g0]using q3 k⟩
 ·intro i hi;have hb:=E.big i hi
  cases hh:look H' i with
  |none=>simp only[Zn,hh];exact h.par i hi
  |some o=>
   cases hH:look H i with
   |some o0=>simp only[Zn,hh];simp only[Option.isSome_some,if_true];rw[k4 i o0 hH];exact h.par i hi
   |none=>have:=(hc.new i o hh hH).2;omega
 ·intro b hb hm;rw[k1 b (a4N hb h.grow) ?_]
  ·exact h.old b hb hm
  ·rintro⟨id,o,ho,hq⟩
   rcases h.own id o b (hc.sub id o ho) hq with⟨h1,h2⟩|h1
   ·exact hm (.inl ⟨_,h1,h2⟩)
   ·exact E.no hb hm h1
 ·exact a9L h.grow k2
 ·exact⟨k3.os.trans h.same.1,k3.tape.trans h.same.2.1,k3.output.trans h.same.2.2.1,a9L h.same.2.2.2 k3.drawn⟩
end
def St.args(s:St)(pre:List Z3)(ops:List Operand)(post:List Z3):List AV:=pre.map Z3.av++ops.map s.ev++post.map Z3.av
def pl0:Pl:=⟨fun _=>none,fun _ _=>False⟩
def AV.D1:AV->Bool
 | .iv _=>true
 | _=>false
def AV.plain:AV->Bool
 | .iv _=>true
 | .agg cs=>cs.all AV.D1
 | _=>false
theorem c9K{A:Nat->Prop}{ψ:Pl}{H:Hp}{w:World}{x:AV}{v:Value}(hp:x.plain=true)(h:ZK A ψ H w x v):ZK A pl0 [] w x v:=by
 cases h with
 |iv x v h=>exact .iv x v h
 |agg cs vs hl h=>
  refine .agg cs vs hl fun i c hc=>?_
  have h1:=h i c hc;have h2:c.D1=true:=a0E.1 hp c (a8y hc)
  cases c<;>first|cases h2|skip
  cases h1 with
  |iv _ _ h=>exact .iv _ _ h
 | _=>cases hp
theorem f0O{A:Nat->Prop}{ψ:Pl}{H:Hp}{w:World}{x:AV}{v:Value}(h:ZK A pl0 [] w x v):ZK A ψ H w x v:=h.mono (fun _ _ h=>h) (fun _ _ _=>rfl) fun id o ho=>by cases ho
def rI(P:Program)(l:Nat)(xs:List AV)(Z:GZ)(b:Bool)(Z':GZ):Prop:=∀(A B:Nat->Prop) (w:World) (vs:List Value),(∀k,A k->k<w.heap.size)->(∀k,B k->k<w.heap.size)->(∀k,B k->¬A k)->
 Oi Z A B w->vs.length=xs.length->(∀i x,xs[i]? =some x->ZK A pl0 [] w x (vs.getD i undef))->
 ∃fn tmps assign body,(Instr.yield l vs.toArray).run P w= .ok (.round l fn tmps assign body) w/\∀m,RoundIn Fence.wide m P l fn tmps assign body w fun e w'=>∃B':Nat->Prop,e= .returned (.bool b)∧
  (∀k,k<w.heap.size->¬B k->w'.heap[k]? =w.heap[k]?)/\w.heap.size<=w'.heap.size/\RJ w w'/\(∀k,B' k->B k\/w.heap.size<=k)/\(∀k,B' k->k<w'.heap.size)∧
  Oi Z' (fun k=>(A k\/w.heap.size<=k)/\¬B' k) B' w'
def c1L(P:Program)(l:Nat)(ops:List Operand)(s:St)(K:St->AV->Prop):Prop:=
 ∃(s1:St) (g:Nat) (Z:GZ) (b:Bool) (Z':GZ) (xs:List AV),Le s s1/\look s1.hp g=some (.gh Z [] [])/\(ops.map s1.ev=xs/\xs.all AV.plain=true)/\rI P l xs Z b Z'/\K (s1.join [(g, .gh Z' [] [])]) (.iv (.v (.bool b)))
def c2L(s:St)(fr:Bool)(ids:List Nat):List AV->List AV->Prop
 | [],[]=>True
 |x::xs,y::ys=>(y=s.arg fr ids x\/∃sz ZB,x= .nil sz/\y= .nil ZB)/\c2L s fr ids xs ys
 | _,_=>False
theorem c3L{s:St}{fr:Bool}{ids:List Nat}:∀(l:List AV),c2L s fr ids l (l.map (s.arg fr ids))
 | []=>trivial
 |x::l=>⟨.inl rfl,c3L l⟩
theorem c4L{s:St}{fr:Bool}{ids:List Nat}:∀{l l':List AV},c2L s fr ids l l'->l'.length=l.length/\∀(i:Nat) (y:AV),l'[i]? =some y->∃x,l[i]? =some x/\(y=s.arg fr ids x\/∃sz ZB,x= .nil sz/\y= .nil ZB)
 | [],[],_=>⟨rfl,fun i y h=>by simp at h⟩
 |x::l,y::l',h=>by
  obtain⟨h1,h2⟩:=h;obtain⟨g1,g2⟩:=c4L h2;refine⟨by simp[g1],fun i z hz=>?_⟩
  cases i with
  |zero=>simp only[a9E,a5y]at hz;subst hz;exact⟨x,rfl,h1⟩
  |succ i=>simpa using g2 i z (by simpa using hz)
 | [],y::l',h=>h.elim
 |x::l,[],h=>h.elim
def LC(P:Program)(d:Nat)(f:FuncId)(pre:List Z3)(ops:List Operand)(post:List Z3)(y:Option Operand)(s:St)(K:St->AV->Prop):Prop:=
 ∃(s0:St),Le s s0/\∃(fr:Bool) (H:Hp) (R:AV->Hp->Prop) (s1:St),
  s1=(if fr then s0 else s0.Y9 ((s0.args pre ops post).filter fun x=> !x.YO (H.map (·.1)))).drop d∧
  (match y with|some y=>s1.ev y= .fn f pre post|none=>True)∧
  ∃as1,c2L s1 fr (H.map (·.1)) (s1.args pre ops post) as1/\Sz P fr f as1 H R s1/\∀res H',R res H'->K (s1.join H') res
theorem qg{P:Program}{d:Nat}{f:FuncId}{pre:List Z3}{ops:List Operand}{post:List Z3}{y:Option Operand}{s:St}{K:St->AV->Prop}
 (h:∃(s0:St),Le s s0/\∃(fr:Bool) (H:Hp) (res:AV) (H':Hp) (s1:St),
  s1=(if fr then s0 else s0.Y9 ((s0.args pre ops post).filter fun x=> !x.YO (H.map (·.1)))).drop d∧
  (match y with|some y=>s1.ev y= .fn f pre post|none=>True)∧
  Nf P fr f ((s1.args pre ops post).map (s1.arg fr (H.map (·.1)))) H res H' s1/\K (s1.join H') res):LC P d f pre ops post y s K:=by
 obtain⟨s0,h0,fr,H,res,H',s1,a,b,c,k⟩:=h;exact⟨s0,h0,fr,H,_,s1,a,b,_,c3L _,c.n,fun r K e=>by obtain⟨rfl,rfl⟩:=e;exact k⟩
def Fo(s:St):List AV->List (Nat×Nat×Operand)->Option (List AV)
 |z,[]=>some z
 |z,(off,n,x)::r=>match (s.ev x).cellsOf with
  |some cs=>if cs.length=n/\off+n<=z.length then Fo s (Zc z off cs) r else none
  |none=>none
def RQ(s:St)(sz:Nat):List (Nat×Operand)->Option (List (List IV))
 | []=>some []
 |(_,x)::r=>match (s.ev x).cellsOf.bind fun cs=>cs.mapM AV.iv? with
  |some c=>if c.length=sz then(RQ s sz r).map fun q=>c::q else none
  |none=>none
def vtrue:AV:= .iv (.v (.bool true))
def E6:List AV->Option Nat
 | [.nil sz]=>some sz
 | _=>none
theorem c9L{z:List AV}{sz:Nat}(h:E6 z=some sz):z=[.nil sz]:=by
 unfold E6 at h;split at h
 ·cases h;rfl
 ·cases h
def ZP(
 P:Program) (d:Nat) (s:St) (K:St->AV->Prop):Wu->Prop
 | .Td x=>K s (s.ev x)
 | .Ix sz=>K ((s.drop d).add d (.list sz [])) (.sl d sz 0 0)
 | .pick c x y=>match s.ev c with
  | .iv (.v (.bool t))=>K s (if t then s.ev x else s.ev y)
  | _=>False
 | .alloc z=>K ((s.drop d).add d (.box z)) (.ptr d 0)
 | .box x=>match ((s.drop d).ev x).cellsOf with
  |some cs=>K ((s.drop d).add d (.box cs)) (.ptr d 0)
  |none=>False
 | .build z parts=>match Fo s z parts with
  |some cs=>K s (.agg cs)
  |none=>False
 | .lit sz len parts=>match RQ ((s.Y9 (parts.map fun p=>s.ev p.2)).drop d) sz parts with
  |some xs=>K (((s.Y9 (parts.map fun p=>s.ev p.2)).drop d).add d (.list sz xs)) (.sl d sz 0 len)
  |none=>False
 | .ld x none=>match s.ev x with
  | .ptr id off=>match look s.hp id with
   |some (.box cs)=>match cs[off]? with
    |some y=>K s y
    |none=>False
   | _=>False
  | .ep id _ i off=>match look s.hp id with
   |some (.list _ xs)=>match at2 xs i off with
    |some y=>K s (.iv y)
    |none=>False
   |some (.ZI YK xs hole)=>hole=none/\off=0/\id≠d/\(s.drop d).ev x= .ep id 1 i 0/\look (s.drop d).hp id=some (.ZI YK xs none)/\match xs[i]? with
    |some ys=>K (((s.drop d).add id (.ZI YK xs (some i))).add d (.YU id YK ys)) (.sl d YK 0 ys.length)
    |none=>False
   | _=>False
  | .iv (.pt cs)=>match cs[0]? with
   |some y=>K s (.iv y)
   |none=>False
  | _=>False
 | .ld x (some n)=>match s.ev x with
  | .ptr id off=>match look s.hp id with
   |some (.box cs)=>off+n<=cs.length/\K s (.agg ((cs.drop off).take n))
   | _=>False
  | .ep id _ i off=>match look s.hp id with
   |some (.list _ xs)=>match xs[i]? with
    |some r=>off+n<=r.length/\K s (.agg (((r.drop off).take n).map .iv))
    |none=>False
   | _=>False
  | .iv (.pt cs)=>n<=cs.length/\K s (.agg ((cs.take n).map .iv))
  | _=>False
 | .st x y n=>match s.ev x with
  | .ptr id off=>match look s.hp id,(s.ev y).cellsOf with
   |some (.box cs),some cy=>cy.length=n/\off+n<=cs.length/\cy.all AV.one=true/\K (s.add id (.box (Zc cs off cy))) .un
   | _,_=>False
  | .ep id _ i off=>match look (s.Y9 [s.ev y]).hp id,((s.Y9 [s.ev y]).ev y).cellsOf.bind fun cs=>cs.mapM AV.iv? with
   |some (.list sz xs),some cy=>match xs[i]? with
    |some r=>(s.Y9 [s.ev y]).ev x= .ep id sz i off/\cy.length=n/\off+n<=r.length/\K ((s.Y9 [s.ev y]).add id (.list sz (xs.set i (Zc r off cy)))) .un
    |none=>False
   |some (.ZI YK xs hole),_=>match s.ev y with
    | .sl d' ZB 0 len=>match look s.hp d' with
     |some o=>match o.T5 with
      |some (_,ys)=>look s.hp id=some (.ZI YK xs hole)/\(n=1/\off=0)/\ZB=YK/\d'<1000/\d'≠id/\len=ys.length/\(o.org?=none\/o.org?=some id)/\hole=some i∧
       K ((s.kill d').add id (.ZI YK (xs.set i ys) none)) .un
      |none=>False
     |none=>False
    | _=>False
   | _,_=>False
  | _=>False
 | .sb x=>match s.ev x with
  | .ptr id off=>K s (.ptr id off)
  | .ep id sz i off=>K s (.ep id sz i off)
  | .iv (.pt cs)=>K s (.iv (.pt cs))
  | _=>False
 | .bin op x y=>match s.ev x,s.ev y with
  | .iv (.v u), .iv (.v v)=>match YY op u v with
   |some r=>K s (.iv (.v r))
   |none=>False
  | _,_=>False
 | .beq neg x y=>match s.ev x,s.ev y with
  | .iv (.v (.bool u)), .iv (.v (.bool v))=>K s (.iv (.v (.bool (if neg then u != v else u==v))))
  | _,_=>False
 | .peq neg x y=>match s.ev x,s.ev y with
  | .iv (.v (.pointer none)), .iv (.v (.pointer none))=>K s (.iv (.v (.bool (!neg))))
  | .iv (.v (.pointer none)), .ptr .. =>K s (.iv (.v (.bool neg)))
  | .iv (.v (.pointer none)), .iv (.pt _)=>K s (.iv (.v (.bool neg)))
  | .ptr .., .iv (.v (.pointer none))=>K s (.iv (.v (.bool neg)))
  | .iv (.pt _), .iv (.v (.pointer none))=>K s (.iv (.v (.bool neg)))
  | _,_=>False
 | .eqs neg ks x y=>match s.ev x,s.ev y with
  | .agg cs, .agg ds=>match Ug ks cs ds with
   |some b=>K s (.iv (.v (.bool (if neg then !b else b))))
   |none=>False
  | _,_=>False
 | .un op x=>match s.ev x with
  | .iv (.v v)=>match unV op v with
   |some r=>K s (.iv (.v r))
   |none=>False
  | _=>False
 | .cvt k x=>match s.ev x with
  | .iv (.v (.int _ m))=>K s (.iv (.v (.int k (k.wrap m))))
  | _=>False
 | .cut sz x lo hi=>match s.ev x with
  | .iv (.Z6 ZB xs)=>match s.bound 0 lo,s.bound xs.length hi with
   |some l,some h=>ZB=sz/\0<=l/\l<=h/\h<=xs.length/\K s (.iv (.Z6 sz ((xs.drop l.toNat).take (h-l).toNat)))
   | _,_=>False
  | .sl id ZB o m=>match s.bound 0 lo,s.bound m hi with
   |some l,some h=>ZB=sz/\0<=l/\l<=h/\h<=m/\K s (.sl id sz (o+l.toNat) (h-l).toNat)
   | _,_=>False
  | .nil ZB=>match s.bound 0 lo,s.bound 0 hi with
   |some l,some h=>l=0/\h=0/\K s (.nil ZB)
   | _,_=>False
  | _=>False
 | .fa off x=>match s.ev x with
  | .ptr id o=>K s (.ptr id (o+off))
  | .ep id sz i o=>K s (.ep id sz i (o+off))
  | .iv (.pt cs)=>K s (.iv (.pt (cs.drop off)))
  | _=>False
 | .WJ off none x=>match s.ev x with
  | .agg cs=>match cs[off]? with
   |some y=>K s y
   |none=>False
  | _=>False
 | .WJ off (some n) x=>match s.ev x with
  | .agg cs=>off+n<=cs.length/\K s (.agg ((cs.drop off).take n))
  | _=>False
 | .ia sz x i=>match s.ev x,s.ev i with
  | .iv (.Z6 ZB xs), .iv (.v (.int _ m))=>ZB=sz/\0<=m/\match xs[m.toNat]? with
   |some r=>K s (.iv (.pt r))
   |none=>False
  | .sl id ZB o k, .iv (.v (.int _ m))=>ZB=sz/\0<=m/\m<k/\K s (.ep id sz (o+m.toNat) 0)
  | _,_=>False
 | .is x i=>match s.ev x,s.ev i with
  | .iv (.v (.string t)), .iv (.v (.int _ m))=>0<=m/\match t[m.toNat]? with
   |some b=>K s (.iv (.v (.int .u8 b.toNat)))
   |none=>False
  | _,_=>False
 | .ix n x i=>match s.ev x,s.ev i with
  | .agg cs, .iv (.v (.int _ m))=>0<=m/\m<n/\match cs[m.toNat]? with
   |some y=>K s y
   |none=>False
  | _,_=>False
 | .ext i x=>match s.ev x with
  | .Zp vs=>match vs[i]? with
   |some y=>K s y
   |none=>False
  | _=>False
 | .len x=>match s.ev x with
  | .iv (.Z6 _ xs)=>K s (.iv (.v (.int .i64 xs.length)))
  | .sl _ _ _ m=>K s (.iv (.v (.int .i64 m)))
  | .nil _=>K s (.iv (.v (.int .i64 0)))
  | _=>False
 | .lens x=>match s.ev x with
  | .iv (.v (.string t))=>K s (.iv (.v (.int .i64 t.size)))
  | _=>False
 | .app sz bytes x y=>match s.ev x,s.elems (s.ev y)with
  | .sl id ZB lo m,some (YK,ys)=>match look s.hp id with
   |some o=>match o.T5 with
    |some (_,xs)=>ZB=sz/\(YK=sz\/ys=[])/\id<1000/\lo+m=xs.length/\(m+ys.length)*bytes<=2^47/\m+ys.length<2^62∧
     K ((s.lone id).add id (o.Xu sz (xs.drop lo++ys))) (.sl id sz 0 (m+ys.length))
    |none=>False
   |none=>False
  | .nil _,some (YK,ys)=>(YK=sz\/ys=[])/\ys.length*bytes<=2^47/\ys.length<2^62/\K ((s.drop d).add d (.list sz ys)) (.sl d sz 0 ys.length)
  | _,_=>False
 | .mm mx xs=>match c6V mx (xs.map s.ev)with
  |some (k,m)=>K s (.iv (.v (.int k m)))
  |none=>False
 | .V6 f first caps=>match (first.map s.ev).mapM AV.cap,(caps.map s.ev).mapM AV.cap with
  |some a,some b=>K s (.fn f a b)
  | _,_=>False
 | .call f args=>LC P d f [] args [] none s K
 | .Qg neg x=>match s.ev x with
  | .nil _=>K s (.iv (.v (.bool (!neg))))
  | .sl _ _ _ m=>∀b:Bool,(0<m->b=false)->K s (.iv (.v (.bool (if neg then !b else b))))
  | .iv (.Z6 _ xs)=>∀b:Bool,(xs≠[]->b=false)->K s (.iv (.v (.bool (if neg then !b else b))))
  | _=>False
 | .mks sz bytes z l c=>match E6 z with
  |some ZB=>match s.ev l,s.ev c with
   | .iv (.v (.int _ m)), .iv (.v (.int _ q))=>0<=m/\q=m/\m<2^62/\(bytes:Int)*m<=2^47/\sz=1/\K ((s.drop d).add d (.ZI ZB (a6R m.toNat []) none)) (.sl d 1 0 m.toNat)
   | _,_=>False
  |none=>match s.ev l,s.ev c,z.mapM AV.iv? with
   | .iv (.v (.int _ m)), .iv (.v (.int _ q)),some zi=>0<=m/\q=m/\m<2^62/\(bytes:Int)*m<=2^47/\K ((s.drop d).add d (.list sz (a6R m.toNat zi))) (.sl d sz 0 m.toNat)
   | _,_,_=>False
 | .XD sk=>K ((s.drop d).add d (.map sk fun _=>none)) (.mpr d)
 | .UT sk z m k ok=>match (s.drop d).QU ((s.drop d).ev m)with
  |some (id,Xn,sz,g,hole)=>match SY ((s.drop d).ev k),z with
   |some (Tm,kk),[.nil ZB]=>ok=false/\Xn=sk/\Tm=(sk.1,sk.2.1)/\ZB=sz/\hole=none/\match g kk with
    |none=>K (s.drop d) (.nil sz)
    |some xs=>K (((s.drop d).add id (.YJ sk sz (ZG g kk none) (some kk))).add d (.YU id sz xs)) (.sl d sz 0 xs.length)
   | _,_=>False
  |none=>match s.mapOf (s.ev m),SY (s.ev k)with
   |some (Xn,g),some (Tm,kk)=>Xn=sk/\Tm=(sk.1,sk.2.1)/\K s (N9 z sk.2.2 ok (g kk))
   | _,_=>False
 | .YI sk m k x=>match s.QU (s.ev m)with
  |some (id,Xn,sz,g,hole)=>match SY (s.ev k),s.ev x with
   |some (
    Tm,kk), .sl d' ZB 0 len=>match look s.hp d' with
    |some o=>match o.T5 with
     |some (_,xs)=>Xn=sk/\Tm=(sk.1,sk.2.1)/\ZB=sz/\d'<1000/\d'≠id/\len=xs.length/\(o.org?=none\/o.org?=some id)∧
      (hole=some kk\/(hole=none/\g kk=none))/\K ((s.kill d').add id (.YJ sk sz (ZG g kk (some xs)) none)) .un
     |none=>False
    |none=>False
   | _,_=>False
  |none=>match (s.Y9 [s.ev x]).rL ((s.Y9 [s.ev x]).ev m),SY ((s.Y9 [s.ev x]).ev k),((s.Y9 [s.ev x]).ev x).cellsOf.bind fun cs=>cs.mapM AV.iv? with
   | .mpr id,some (Tm,kk),some c=>match look (s.Y9 [s.ev x]).hp id with
    |some (.map Xn g)=>Xn=sk/\Tm=(sk.1,sk.2.1)/\Hn ((s.Y9 [s.ev x]).ev x)=sk.2.2/\K ((s.Y9 [s.ev x]).add id (.map sk (ZG g kk (some c)))) .un
    | _=>False
   | _,_,_=>False
 | .JN sk z m k=>match s.ev m,SY (s.ev k),Zm AV.iv? z with
  | .mpr id,some (Tm,kk),some zi=>match look s.hp id with
   |some (.map Xn g)=>Xn=sk/\Tm=(sk.1,sk.2.1)/\∀n:Int,K (s.add id (.WT sk (ZG g kk (some ((g kk).getD zi))) n kk)) (.Zp [Tq sk.2.2 (((g kk).getD zi).map .iv), .iv (.v (.int .i64 n))])
   | _=>False
  | _,_,_=>False
 | .est m st x=>match (s.Y9 [s.ev x]).ev m,(s.Y9 [s.ev x]).ev st,((s.Y9 [s.ev x]).ev x).cellsOf.bind fun cs=>cs.mapM AV.iv? with
  | .mpr id, .iv (.v (.int _ n')),some c=>match look (s.Y9 [s.ev x]).hp id with
   |some (.WT sk g n kk)=>n'=n/\Hn ((s.Y9 [s.ev x]).ev x)=sk.2.2/\K ((s.Y9 [s.ev x]).add id (.map sk (ZG g kk (some c)))) .un
   | _=>False
  | _,_,_=>False
 | .QY sk x=>match ((s.Y9 [s.ev x]).drop d).ev x with
  | .iv (.mp E5 g)=>E5=sk/\∀L:List (List Value),L.Nodup->(∀k,k∈L↔g k≠none)->(∀k∈L,k.mapM Za=some sk.2.1)->K (((s.Y9 [s.ev x]).drop d).add d (.iter sk g L none)) (.ptr d 0)
  | _=>False
 | .nxt x=>match s.ev x with
  | .ptr id 0=>match look s.hp id with
   |some (.iter sk g left last)=>(left=[]->K s (.Zp [.iv (.v (.bool false))]))∧
    ∀k c,k∈left->g k=some c->k.mapM Za=some sk.2.1->K (s.add id (.iter sk g (O6 k left) (some k))) (.Zp [vtrue,Tq sk.1 (k.map fun v=> .iv (.v v)),Tq sk.2.2 (c.map .iv)])
   | _=>False
  | _=>False
 | .S7 x=>match s.ev x with
  | .ptr id 0=>match look s.hp id with
   |some (.iter sk g left (some k))=>∀c,g k=some c->K s (.Zp [Tq sk.1 (k.map fun v=> .iv (.v v)),Tq sk.2.2 (c.map .iv)])
   | _=>False
  | _=>False
 | .Hq sk m k=>match s.ev m,SY (s.ev k)with
  | .mpr id,some (Tm,kk)=>match look s.hp id with
   |some (.map Xn g)=>Xn=sk/\Tm=(sk.1,sk.2.1)/\K (s.add id (.map sk (ZG g kk none))) (.Zp [])
   | _=>False
  | _,_=>False
 | .cpy sz x y=>match s.ev x,s.elems (s.ev y)with
  | .sl id ZB lo m,some (YK,ys)=>match look s.hp id with
   |some (.list JQ xs)=>(xs≠[]/\lo=0)/\(ZB=sz/\JQ=sz/\YK=sz)/\m=xs.length/\ys.length=m/\K (s.add id (.list sz ys)) (.iv (.v (.int .i64 m)))
   | _=>False
  | _,_=>False
 | .clr sz z x=>match s.ev x,z.mapM AV.iv? with
  | .sl id ZB lo m,some zi=>match look s.hp id with
   |some (.list JQ xs)=>(ZB=sz/\JQ=sz)/\(0<m/\lo+m<=xs.length)/\K (s.add id (.list sz (xs.take lo++a6R m zi++xs.drop (lo+m)))) (.Zp [])
   | _=>False
  | _,_=>False
 | .Ho x=>match s.mapOf (s.ev x)with
  |some (_,g)=>∀n:Nat,(n=0↔∀k,g k=none)->K s (.iv (.v (.int .i64 n)))
  | _=>False
 | .Yz x args=>match s.ev x with
  | .fn f first caps=>XI P f=true/\LC P d f first args caps (some x) s K
  | .iv (.v (.func (.yield l) vf vc))=>vf= #[]/\vc= #[]/\c1L P l args s K
  | .iv (.v (.func (.func f) vf vc))=>vf= #[]/\vc= #[]/\XI P f=true/\LC P d f [] args [] none s K
  | _=>False
theorem e2f{v:Value}(h:v.oneCell'=true):v.cells= #[v]:=by cases v<;>simp_all[Value.oneCell',Value.cells]
theorem YB.one{A:Nat->Prop}{w:World}{x:IV}{v:Value}(h:YB A w x v):v.oneCell'=true:=by
 cases h with
 |v x h1=>exact h1
 | _=>rfl
theorem ZK.one{A:Nat->Prop}{ψ:Pl}{H:Hp}{w:World}{x:AV}{v:Value}(h:ZK A ψ H w x v)(hx:x.one=true):v.oneCell'=true:=by
 cases h with
 |iv x v h=>exact h.one
 |agg cs vs hl h=>cases hx
 |Zp cs vs hl h=>cases hx
 |un=>cases hx
 |junk v=>cases hx
 | _=>rfl
theorem Ew{A:Nat->Prop}{ψ:Pl}{H:Hp}{w:World}(sz:Nat)(v:Value):ZK A ψ H w (Iz sz v) v:=by
 unfold Iz;split
 ·exact .nil sz
 ·exact .junk _
 ·exact .junk _
 ·rename_i h1 h2 h3;refine .iv _ _ (.v v ?_)
  cases v<;>simp_all[Value.oneCell']
theorem e4f{A:Nat->Prop}{ψ:Pl}{H:Hp}{w:World}(v:Value):ZK A ψ H w (AV.const v) v:=by
 unfold AV.const;split
 ·rename_i cs
  refine .agg _ _ (by simp) fun i c hc=>?_
  rw[a0C]at hc
  cases hi:cs.toList[i]? with
  |none=>rw[hi]at hc;cases hc
  |some x=>
   rw[hi]at hc;cases hc
   have:cs.getD i undef=x:=by
    rw[Array.getElem?_toList]at hi;simp[a4E,hi]
   rw[this];exact Ew 0 x
 ·exact Ew 0 v
def Fg(P:Program)(o:Oper)(a:Act)(next:Act->World->Prop):Result Next->Prop
 | .ok (.value v) w'=>next (a.put o.dst v) w'
 | .ok .skip w'=>next (a.put o.dst undef) w'
 | .ok (.enter f args) w'=>Calls P f args w' fun e JS=>∃v,e= .returned v/\next (a.put o.dst v) JS
 | .ok (.round l f tmps assign body) w'=>∀m,RoundIn Fence.wide m P l f tmps assign body w' fun e JS=>∃v,e= .returned v/\next (a.put o.dst v) JS
 | _=>False
def ND(P:Program)(o:Oper)(a:Act)(w:World)(next:Act->World->Prop):Prop:=Fg P o a next ((execOp a.eval o).run P w)
theorem e5f{P:Program}{o:Oper}{a:Act}{K K':Act->World->Prop}(hK:∀a w,K a w->K' a w):∀{r:Result Next},Fg P o a K r->Fg P o a K' r:=by
 intro r h
 cases r with
 |ok x w'=>
  cases x<;>simp only[Fg]at h⊢
  ·exact hK _ _ h
  ·exact hK _ _ h
  ·exact Calls.mono h fun e JS ⟨v,h1,h2⟩=>⟨v,h1,hK _ _ h2⟩
  ·exact fun m=>RoundIn.mono (h m) fun e JS ⟨v,h1,h2⟩=>⟨v,h1,hK _ _ h2⟩
 |halt x w'=>exact h.elim
def qb:Option Nat->Fence
 |none=>Fence.wide
 |some l=>Fence.wide.inRound l
theorem e7f{ro:Option Nat}{m:Nat}{P:Program}{f:FuncId}{args:Array Value}{w:World}{R:Ending->World->Prop}(h:Calls P f args w R):CallsIn (qb ro) m P f args w R:=by
 have:=(callsIn_wide (n:=m)).2 h
 cases ro with
 |none=>exact this
 |some l=>exact this
theorem e8f{P:Program}{o:Oper}{a:Act}{w:World}{K:Act->World->Prop}(WA:∀c,o.op≠ .defer c)(h:ND P o a w K)(ro:Option Nat)(m:Nat)(Q:Exit->Act->World->Prop):o.wpIn (qb ro) m P a w K Q:=by
 refine⟨fun _ _=>by cases ro<;>trivial,?_⟩;rw[Oper.semAt_eq _ _ _ WA];unfold ND at h;generalize (execOp a.eval o).run P w=r at h
 have hd:(qb ro).depth.isSome=true->1<=m:=by cases ro<;>(intro h;cases h)
 cases r with
 |ok x w'=>
  cases x<;>simp only[Fg]at h<;>simp only[Oper.uponIn]
  ·exact h
  ·exact h
  ·exact⟨hd,e7f (Calls.mono h fun e JS ⟨v,h1,h2⟩=>by subst h1;exact h2)⟩
  ·refine⟨hd,?_⟩
   have:=RoundIn.mono (R':=fun| .returned v,JS=>K (a.put o.dst v) JS| .panicked Ll,JS=>Q (.panic Ll) a JS| .outgrown,_=>LetsOut Q) (h (m-1)) fun e JS ⟨v,h1,h2⟩=>by subst h1;exact h2
   cases ro with
   |none=>exact this
   |some l=>exact this
 |halt x w'=>exact h.elim
section
variable{P:Program}{E:En}{n:Nat}{ψ:Pl}{s:St}{a:Act}{w:World}
theorem Z7.ev(h:Z7 E n ψ s a w)(x:Operand):ZK (Im E ψ s.hp) ψ s.hp w (s.ev x) (a.eval x):=by
 cases x with
 |tmp t=>exact h.frame t
 |const v=>exact e4f v
 |global g=>exact .junk _
 |func f=>exact .fn f [] [] #[] #[] rfl rfl (by simp) (by simp)
def X6(P:Program)(E:En)(n:Nat)(o:Oper)(a:Act)(w:World)(K:St->AV->Prop):Prop:=
 ∀(K':Act->World->Prop) (Q:Exit->Act->World->Prop),
  (∀s' av ZF v w',K s' av->Z7 E n ZF s' a w'->ZK (Im E ZF s'.hp) ZF s'.hp w' av v->K' (a.put o.dst v) w')->ND P o a w K'
theorem SH{o:Oper}{K:St->AV->Prop}{v:Value}{w':World}{s':St}{av:AV}{ZF:Pl}
 (hr:(execOp a.eval o).run P w= .ok (.value v) w') (hk:K s' av) (hs:Z7 E n ZF s' a w') (hv:ZK (Im E ZF s'.hp) ZF s'.hp w' av v):
 X6 P E n o a w K:=by
 intro K' Q h;unfold ND;rw[hr];exact h s' av ZF v w' hk hs hv
theorem sw{o:Oper}{K:St->AV->Prop}{w':World}{s':St}{ZF:Pl}
 (hr:(execOp a.eval o).run P w= .ok .skip w') (hk:K s' .un) (hs:Z7 E n ZF s' a w'):X6 P E n o a w K:=by
 intro K' Q h;unfold ND;rw[hr];exact h s' .un ZF undef w' hk hs .un
theorem e1g{o:Oper}{K:St->AV->Prop}{v:Value}{av:AV}(h:Z7 E n ψ s a w)
 (hr:(execOp a.eval o).run P w= .ok (.value v) w) (hk:K s av) (hv:ZK (Im E ψ s.hp) ψ s.hp w av v):X6 P E n o a w K:=
 SH hr hk h hv
structure XY (P:Program) (E:En) (n:Nat) (o:Oper) (a:Act) (w:World) (K:St->AV->Prop):Prop where
 does:X6 P E n o a w K
 any:∃v,∀u,(execOp a.eval o).run P u= .ok (.value v) u
theorem Wo{o:Oper}{K:St->AV->Prop}{v:Value}{av:AV}(h:Z7 E n ψ s a w)
 (hr:∀u,(execOp a.eval o).run P u= .ok (.value v) u) (hk:K s av) (hv:ZK (Im E ψ s.hp) ψ s.hp w av v):XY P E n o a w K:=
 ⟨e1g h (hr w) hk hv,v,hr⟩
theorem getD_some{α:Type}{c:Array α}{i:Nat}{d:α}(h:i<c.size):c[i]? =some (c.getD i d):=by
 simp[a4E,h]
theorem UP{A:Nat->Prop}{ψ:Pl}{H:Hp}{w:World}{x:Value}(h:x.oneCell'=true):ZK A ψ H w (.iv (.v x)) x:= .iv _ _ (.v x h)
theorem e4g(w:World){t:TypeId}{d:TypeDesc}(h:P.underlying t=some d):(isAgg t).run P w= .ok (XZ P t) w:=by
 unfold isAgg XZ;simp only[underlying,Sem.run_bind,run_program,Result.andThen_ok,h,Sem.run_pure]
 cases d<;>rfl
theorem run_sizeOf(w:World){t:TypeId}{k:Nat}(h:X7 P t=some k):(sizeOf t).run P w= .ok k w:=by
 unfold X7 at h
 cases hi:P.info? t with
 |none=>rw[hi]at h;cases h
 |some i=>rw[hi]at h;cases h;simp[sizeOf,typeInfo,hi]
theorem run_underlying(w:World){t:TypeId}{d:TypeDesc}(h:P.underlying t=some d):(underlying t).run P w= .ok d w:=by
 simp[underlying,h]
theorem Fk(b o k:Nat):Addr.add ⟨b,o,none⟩ k=⟨b,o+k,none⟩:=by
 unfold Addr.add;split<;>simp_all
theorem e6g(w:World)(b o:Nat):∀(k i:Nat) (acc:Array Value) (vs:List Value),vs.length=k->
 (∀j,j<k->w.cell? ⟨b,o+(i+j),none⟩=vs[j]?)->(loadCellsFrom ⟨b,o,none⟩ i k acc).run P w= .ok (acc++vs.toArray) w:=by
 intro k
 induction k with
 |zero=>intro i acc vs hl _;cases vs with|nil=>simp[loadCellsFrom]|cons=>simp at hl
 |succ k ih=>
  intro i acc vs hl h
  cases vs with
  |nil=>simp at hl
  |cons v vs=>
   have h0:=h 0 (by omega);simp only[b1P,a9E]at h0;simp only[loadCellsFrom,Sem.run_bind,run_load,Fk,h0,Result.andThen_ok]
   rw[ih (i+1) (acc.push v) vs (by simpa using hl) (fun j hj=>by
    have:=h (j+1) (by omega);simp only[a2I]at this
    rw[<-this,show o+(i+1+j)=o+(i+(j+1))from by omega])]
   simp
theorem e7g(w:World)(b o:Nat)(vs:List Value)(h:∀j,j<vs.length->w.cell? ⟨b,o+j,none⟩=vs[j]?):
 (loadCells ⟨b,o,none⟩ vs.length).run P w= .ok vs.toArray w:=by
 unfold loadCells;rw[e6g w b o vs.length 0 #[] vs rfl (fun j hj=>by rw[b4s];exact h j hj)];simp
theorem sure(a:Addr):(Instr.sureAddr (.pointer (some a)):Sem Addr)=Sem.pure a:=rfl
theorem e8g(w:World){t:TypeId}{d:TypeDesc}(hd:P.underlying t=some d)(hg:XZ P t=false){b o:Nat}{v:Value}(hc:w.cell? ⟨b,o,none⟩=some v):
 (Instr.loadAt t (.pointer (some ⟨b,o,none⟩))).run P w= .ok v w:=by
 simp only[Instr.loadAt,sure,Sem.run_bind,Sem.run_pure',Result.andThen_ok,loadVar,e4g w hd,hg,a5M,if_false,run_load,hc]
theorem e9g(w:World){t:TypeId}{d:TypeDesc}(hd:P.underlying t=some d)(hg:XZ P t=true){b o:Nat}(vs:List Value)
 (hn:X7 P t=some vs.length) (hc:∀j,j<vs.length->w.cell? ⟨b,o+j,none⟩=vs[j]?):
 (Instr.loadAt t (.pointer (some ⟨b,o,none⟩))).run P w= .ok (.agg vs.toArray) w:=by
 simp only[Instr.loadAt,sure,Sem.run_bind,Sem.run_pure',Result.andThen_ok,loadVar,e4g w hd,hg,if_true,run_sizeOf w hn,e7g w b o vs hc,Sem.run_pure]
theorem e0h{A:Nat->Prop}{H:Hp}{cs:List AV}{c:Array Value}{off k:Nat}(h:∀i x,cs[i]? =some x->ZK A ψ H w x (c.getD i undef))(hk:off+k<=cs.length)(hc:cs.length<=c.size):
 ZK A ψ H w (.agg ((cs.drop off).take k)) (.agg ((c.toList.drop off).take k).toArray):=by
 refine .agg _ _ (by simp;omega) fun i x hx=>?_
 rw[a5N]at hx;split at hx
 ·rename_i hi;rw[a9J]at hx;have:=h _ _ hx;rw[b5S]
  have e:((c.toList.drop off).take k).getD i undef=c.getD (off+i) undef:=by
   simp[a7V,a5N,hi,a9J,a4E]
  rw[e];exact this
 ·cases hx
theorem e1h{dst:Option Nat}{t:TypeId}{x:Operand}{ty:TypeId}{pos:String}{af:Array Edge}{g:Option (Nat×Bool)}{r:Wu}{d:Nat}{K:St->AV->Prop}
 (hc:comp P ⟨dst, .load t x,ty,pos,af,g⟩=some r) (h:Z7 E n ψ s a w) (hk:ZP P d s K r) (Y6:∀id sz i off z xs hole,s.ev x= .ep id sz i off->look s.hp id≠some (.ZI z xs hole)):
 ∃v av,(∀u,Ext w u->(Instr.loadAt t (a.eval x)).run P u= .ok v u)/\K s av/\ZK (Im E ψ s.hp) ψ s.hp w av v:=by
 simp only[comp]at hc
 cases hu:P.underlying t with
 |none=>rw[hu]at hc;cases hc
 |some dd=>
  have hx:=h.ev x;simp only[hu,a1V,a5J]at hc
  by_cases hg:XZ P t=true
  ·rw[if_pos hg]at hc
   cases hi:X7 P t with
   |none=>rw[hi]at hc;cases hc
   |some k=>
    rw[hi]at hc;simp only[a4G,a5y]at hc;subst hc;simp only[ZP]at hk;generalize s.ev x=ax at hx hk;generalize a.eval x=vx at hx
    cases hx with
    |ptr id off b q o ho hb=>
     simp only[ho]at hk
     cases o with
     |box cs=>
      obtain⟨hl,hk⟩:=hk;obtain⟨b',c,e,h1,h2,h3,h4⟩:=h.YH id _ ho;rw[h1]at hb;cases hb
      have hlen:((c.toList.drop off).take k).length=k:=by simp;omega
      refine⟨_,_,(fun u hx=>e9g u hu hg ((c.toList.drop off).take k) (by rw[hlen];exact hi) fun j hj=>hx.Gk (?_:w.cell? _=_) (by simpa using hj)),hk,(e0h h4 hl (by omega))⟩;rw[hlen]at hj;rw[d3C h2];simp[a5N,hj,a9J]
     | _=>exact hk.elim
    |ep id sz i off b q o m ho he VZ hb=>
     simp only[ho]at hk
     cases o with
     |list ZB xs=>
      simp only[Ob.dim,a5y,a6J]at he;obtain⟨hz,Gq⟩:=he;have hz:=hz.symm;subst hz;subst Gq;simp only at hk
      cases hr:xs[i]? with
      |none=>rw[hr]at hk;exact hk.elim
      |some r=>
       rw[hr]at hk;obtain⟨hl,hk⟩:=hk;obtain⟨h0,h5⟩:=h.YH id _ ho
       rcases h5 with⟨h1,_⟩|⟨b',q',c,e,h1,h2,Te,h3,h4⟩
       ·rw[h1]at hb;cases hb
       rw[h1]at hb;cases hb;have qG:=h0 r (a8y hr);have hm:(i+1)*sz<=xs.length*sz:=a5E sz (by omega)
       have e2:(i+1)*sz=i*sz+sz:=by rw[a8M];omega
       have hlen:((c.toList.drop (q.1+(i*sz+off))).take k).length=k:=by simp;omega
       refine⟨_,_,(fun u hx=>e9g u hu hg ((c.toList.drop (q.1+(i*sz+off))).take k) (by rw[hlen];exact hi) fun j hj=>hx.Gk (?_:w.cell? _=_) (by simpa using hj)),hk,?_⟩
       ·rw[hlen]at hj;rw[d3C h2];simp[a5N,hj,a9J]
       ·refine .agg _ _ (by simp;omega) fun j y hy=>?_
        rw[a0C,a5N]at hy;split at hy
        ·rename_i hj;rw[a9J]at hy
         cases hrj:r[off+j]? with
         |none=>rw[hrj]at hy;cases hy
         |some z=>
          rw[hrj]at hy;cases hy;rw[b5S]
          have e:((c.toList.drop (q.1+(i*sz+off))).take k).getD j undef=c.getD (q.1+(i*sz+(off+j))) undef:=by
           simp[a7V,a5N,hj,a9J,a4E,b3P]
          rw[e];exact .iv _ _ (h4 i (off+j) z (qE hr hrj))
        ·cases hy
     | _=>exact hk.elim
    |iv y v hy=>
     cases hy with
     |pt cs b off vs EL ou=>
      obtain⟨hl,hk⟩:=hk
      have hlen:((a0I k).map vs).length=k:=by simp
      refine⟨_,_,(fun u hx=>e9g u hu hg ((a0I k).map vs) (by rw[hlen];exact hi) fun j hj=>hx.Gk (?_:w.cell? _=_) (by simpa using hj)),hk,?_⟩
      ·rw[hlen]at hj;rw[(EL j cs[j] (a3I (by omega))).2];simp[hj]
      ·refine .agg _ _ (by simp;omega) fun j y hy=>?_
       rw[a0C,a5N]at hy;split at hy
       ·rename_i hj
        cases hrj:cs[j]? with
        |none=>rw[hrj]at hy;cases hy
        |some z=>
         rw[hrj]at hy;cases hy
         have e:((a0I k).map vs).toArray.getD j undef=vs j:=by
          rw[b5S];simp[a7V,hj]
         rw[e];exact .iv _ _ (ou j z hrj)
       ·cases hy
     | _=>exact hk.elim
    | _=>exact hk.elim
  ·have hg:XZ P t=false:=by simpa using hg
   simp only[hg,a5M,if_false]at hc
   have hc:Wu.ld x none=r:=by simpa using hc
   subst hc;simp only[ZP]at hk;generalize hax:s.ev x=ax at hx hk;generalize a.eval x=vx at hx
   cases hx with
   |ptr id off b q o ho hb=>
    simp only[ho]at hk
    cases o with
    |box cs=>
     simp only at hk
     cases hr:cs[off]? with
     |none=>rw[hr]at hk;exact hk.elim
     |some y=>
      rw[hr]at hk;obtain⟨b',c,e,h1,h2,h3,h4⟩:=h.YH id _ ho;rw[h1]at hb;cases hb
      have ZV:off<c.size:=by rw[h3];exact(a7y.1 hr).1
      exact⟨_,_,(fun u hx=>e8g u hu hg (hx.cell (IA h2 ZV))),hk,(h4 off y hr)⟩
    | _=>exact hk.elim
   |ep id sz i off b q o m ho he VZ hb=>
    simp only[ho]at hk
    cases o with
    |list ZB xs=>
     simp only[Ob.dim,a5y,a6J]at he;obtain⟨hz,Gq⟩:=he;have hz:=hz.symm;subst hz;subst Gq;simp only at hk
     cases hr:at2 xs i off with
     |none=>rw[hr]at hk;exact hk.elim
     |some y=>
      rw[hr]at hk;obtain⟨h0,h5⟩:=h.YH id _ ho
      rcases h5 with⟨h1,_⟩|⟨b',q',c,e,h1,h2,Te,h3,h4⟩
      ·rw[h1]at hb;cases hb
      rw[h1]at hb;cases hb;obtain⟨r,Rj,Lp⟩:=JO hr;have qG:=h0 r (a8y Rj);have P8:=(a7y.1 Lp).1;have hm:(i+1)*sz<=xs.length*sz:=a5E sz (by omega)
      have e2:(i+1)*sz=i*sz+sz:=by rw[a8M];omega
      exact⟨_,_,(fun u hx=>e8g u hu hg (hx.cell (IA h2 (by omega)))),hk,(.iv _ _ (h4 i off y hr))⟩
    |ZI z xs hole=>exact absurd ho (Y6 _ _ _ _ _ _ _ hax)
    | _=>exact hk.elim
   |iv y v hy=>
    cases hy with
    |pt cs b off vs EL ou=>
     simp only at hk
     cases hr:cs[0]? with
     |none=>rw[hr]at hk;exact hk.elim
     |some y=>
      rw[hr]at hk;have:=(EL 0 y hr).2;exact⟨_,_,(fun u hx=>e8g u hu hg (hx.cell this)),hk,(.iv _ _ (ou 0 y hr))⟩
    | _=>exact hk.elim
   | _=>exact hk.elim
end
section
variable{A:Nat->Prop}{ψ:Pl}{H:Hp}{w:World}{v:Value}
theorem VN{x:Value}(h:ZK A ψ H w (.iv (.v x)) v):v=x:=by cases h with|iv _ _ h=>cases h;rfl
theorem ED{id off:Nat}(h:ZK A ψ H w (.ptr id off) v):∃b k o,look H id=some o/\ψ id=some (b,k)/\v= .pointer (some ⟨b,off,none⟩):=by
 cases h with|ptr _ _ b k o ho hb=>exact⟨b,k,o,ho,hb,rfl⟩
theorem b2T{id sz i off:Nat}(h:ZK A ψ H w (.ep id sz i off) v):
 ∃b k o m,look H id=some o/\o.dim=some (sz,m)/\i<m/\ψ id=some (b,k)/\v= .pointer (some ⟨b,k.1+(i*sz+off),none⟩):=by
 cases h with|ep _ _ _ _ b k o m ho he hi hb=>exact⟨b,k,o,m,ho,he,hi,hb,rfl⟩
theorem b3T{cs:List IV}(h:ZK A ψ H w (.iv (.pt cs)) v):∃(b off:Nat) (vs:Nat->Value),(∀i c,cs[i]? =some c->A b/\w.cell? ⟨b,off+i,none⟩=some (vs i))∧
 (∀i c,cs[i]? =some c->YB A w c (vs i))/\v= .pointer (some ⟨b,off,none⟩):=by
 cases h with|iv _ _ h=>cases h with|pt _ b off vs h1 h2=>exact⟨b,off,vs,h1,h2,rfl⟩
theorem qD{cs:List AV}(h:ZK A ψ H w (.agg cs) v):∃vs:Array Value,vs.size=cs.length/\(∀i c,cs[i]? =some c->ZK A ψ H w c (vs.getD i undef))/\v= .agg vs:=by
 cases h with|agg _ vs h1 h2=>exact⟨vs,h1,h2,rfl⟩
theorem b5T{cs:List AV}(h:ZK A ψ H w (.Zp cs) v):∃vs:Array Value,vs.size=cs.length/\(∀i c,cs[i]? =some c->ZK A ψ H w c (vs.getD i undef))/\v= .tuple vs:=by
 cases h with|Zp _ vs h1 h2=>exact⟨vs,h1,h2,rfl⟩
theorem Eu{sz:Nat}(h:ZK A ψ H w (.nil sz) v):v= .slice none 0 0:=by cases h;rfl
theorem b7T{sz:Nat}{xs:List (List IV)}(h:ZK A ψ H w (.iv (.Z6 sz xs)) v):
 (xs=[]/\v= .slice none 0 0)\/∃(b off cap:Nat) (ad:Addr) (vs:Nat->Nat->Value),(xs≠[]->ad=⟨b,off,none⟩)/\(∀x∈xs,x.length=sz)/\xs.length<=cap∧
  (∀i j c,at2 xs i j=some c->A b/\w.cell? ⟨b,off+(i*sz+j),none⟩=some (vs i j))∧
  (∀i j c,at2 xs i j=some c->YB A w c (vs i j))/\v= .slice (some ad) xs.length cap:=by
 cases h with
 |iv _ _ h=>
  cases h with
  |Wj=>exact .inl ⟨rfl,rfl⟩
  |Z6 _ _ b off cap ad vs h1 h2 h3 h4 h5=>exact .inr ⟨b,off,cap,ad,vs,h1,h2,h3,h4,h5,rfl⟩
theorem Jg{id sz lo len:Nat}(h:ZK A ψ H w (.sl id sz lo len) v):∃o m,look H id=some o/\o.dim=some (sz,m)/\lo+len<=m∧
 ((
  ψ id=none/\lo=0/\len=0/\v= .slice none 0 0)∨
  ∃b k cap ad,ψ id=some (b,k)/\(0<cap->ad=⟨b,k.1+lo*sz,none⟩)/\len<=cap/\(lo+cap)*sz<=k.2/\v= .slice (some ad) len cap):=by
 cases h with
 |U4 _ _ o m ho he hb=>exact⟨o,m,ho,he,by omega, .inl ⟨hb,rfl,rfl,rfl⟩⟩
 |sl _ _ _ _ b k cap ad o m ho he hx hb ha UO hk hm=>exact⟨o,m,ho,he,hx, .inr ⟨b,k,cap,ad,hb,ha,UO,hk,rfl⟩⟩
theorem b9T{x:AV}{m:Nat}(h:ZK A ψ H w x v)(hx:(∃sz,x= .nil sz/\m=0)\/(∃sz xs,x= .iv (.Z6 sz xs)/\m=xs.length)\/∃id sz lo,x= .sl id sz lo m):
 ∃ad cap,v= .slice ad m cap:=by
 rcases hx with⟨sz,rfl,rfl⟩|⟨sz,xs,rfl,rfl⟩|⟨id,sz,lo,rfl⟩
 ·exact⟨none,0,Eu h⟩
 ·rcases b7T h with⟨rfl,rfl⟩|⟨b,off,cap,ad,vs,_,_,_,_,_,rfl⟩
  ·exact⟨none,0,rfl⟩
  ·exact⟨some ad,cap,rfl⟩
 ·obtain⟨_,_,_,_,_,⟨_,_,rfl,rfl⟩|⟨b,k,cap,ad,_,_,_,_,rfl⟩⟩:=Jg h
  ·exact⟨none,0,rfl⟩
  ·exact⟨some ad,cap,rfl⟩
theorem b0U{id sz lo len:Nat}{ad:Option Addr}{m cap:Nat}(h:ZK A ψ H w (.sl id sz lo len) (.slice ad m cap)):cap<2^63:=by
 cases h with
 |U4=>decide
 |sl _ _ _ _ b k cap ad o m ho he hx hb ha UO hk hm=>exact hm
end
section
variable{P:Program}{E:En}{n:Nat}{ψ:Pl}{s:St}{a:Act}{w:World}
variable{dst:Option Nat}{ty:TypeId}{pos:String}{af:Array Edge}{g:Option (Nat×Bool)}{r:Wu}{d:Nat}{K:St->AV->Prop}
theorem b1U{c x y:Operand}(hc:comp P ⟨dst, .pick c x y,ty,pos,af,g⟩=some r)(h:Z7 E n ψ s a w)(hk:ZP P d s K r):
 XY P E n ⟨dst, .pick c x y,ty,pos,af,g⟩ a w K:=by
 simp only[comp,a5y]at hc;subst hc;simp only[ZP]at hk;have hx:=h.ev c;generalize s.ev c=ac at hx hk;split at hk
 ·rename_i t;have hv:=VN hx;refine Wo h (v:=if t then a.eval x else a.eval y) (fun u=>by simp[execOp,hv,asBool]) hk ?_;cases t
  ·exact h.ev y
  ·exact h.ev x
 ·exact hk.elim
theorem b2U{x:Operand}(hc:comp P ⟨dst, .nilCheck x,ty,pos,af,g⟩=some r)(h:Z7 E n ψ s a w)(hk:ZP P d s K r):
 XY P E n ⟨dst, .nilCheck x,ty,pos,af,g⟩ a w K:=by
 simp only[comp,a5y]at hc;subst hc;simp only[ZP]at hk;have hx:=h.ev x
 have run:∀p,a.eval x= .pointer (some p)->∀w:World,(execOp a.eval ⟨dst, .nilCheck x,ty,pos,af,g⟩).run P w= .ok (.value (a.eval x)) w:=by
  intro p hp w;simp[execOp,hp]
 generalize s.ev x=ax at hx hk;split at hk
 ·obtain⟨b,k,o,_,_,e⟩:=ED hx;exact Wo h (run _ e) hk hx
 ·obtain⟨b,k,o,m,_,_,_,_,e⟩:=b2T hx;exact Wo h (run _ e) hk hx
 ·obtain⟨b,off,vs,_,_,e⟩:=b3T hx;exact Wo h (run _ e) hk hx
 ·exact hk.elim
theorem b3U{op:BinOp}{t:TypeId}{x y:Operand}{u v:Value}(w:World)(h1:u≠ .nilIface)(h2:∀cs,u≠ .agg cs):(eqGuard op t x y u v).run P w= .ok () w:=by
 unfold eqGuard
 cases u with
 |nilIface=>exact absurd rfl h1
 |agg cs=>exact absurd rfl (h2 cs)
 | _=>cases op<;>rfl
theorem b4U{op:BinOp}{u v z:Value}(h:YY op u v=some z)(t:TypeId):
 z.oneCell'=true/\u≠ .nilIface/\(∀cs,u≠ .agg cs)/\∀w:World,(Go.binOp op t u v).run P w= .ok z w:=by
 unfold YY at h;split at h
 ·rename_i j x k y;refine⟨?_,by simp,by simp,?_⟩
  ·cases op<;>simp only[P1]at h<;>(repeat' split at h)<;>(first|(cases h;rfl)|cases h)
  ·intro w
   cases op<;>simp only[P1]at h<;>(repeat' split at h)<;>(first|(cases h;done)|skip)<;>(try subst_vars)<;>cases h<;>
    first
     |(simp_all[Go.binOp,Op.intArith,Op.intDiv,Op.intBits,Op.intCmp,c9U];done)
     |(rename_i hy;simp only[Go.binOp,Op.shift,if_neg hy,Sem.run_pure,c0V])
 ·rename_i x y;refine⟨?_,by simp,by simp,?_⟩
  ·cases op<;>simp only[oC]at h<;>(first|(cases h;rfl)|cases h)
  ·intro w
   cases op<;>simp only[oC]at h<;>(first|(cases h;done)|skip)<;>cases h<;>simp[Go.binOp,Op.stringOp,oB,UI]
 ·cases h
theorem b5U{op:BinOp}{xt yt:TypeId}{x y:Operand}(h:Z7 E n ψ s a w)(hk:ZP P d s K (.bin op x y)):
 XY P E n ⟨dst, .binOp op xt x y yt,ty,pos,af,g⟩ a w K:=by
 have hx:=h.ev x;have hy:=h.ev y;simp only[ZP]at hk;generalize s.ev x=ax at hx hk;generalize s.ev y=ay at hy hk;split at hk
 ·rename_i u v;have e1:=VN hx;have e2:=VN hy;split at hk
  ·rename_i z hz;obtain⟨h1,h2,h3,h4⟩:=b4U (P:=P) hz xt;refine Wo h (v:=z) ?_ hk (UP h1)
   exact fun w=>by simp[execOp,e1,e2,b3U w h2 h3,h4 w]
  ·exact hk.elim
 ·exact hk.elim
theorem b6U(k:Nat){t:TypeId}(hu:P.underlying t=some .bool)(u v:Bool)(w:World):(Op.equalIn (k+1) t (.bool u) (.bool v)).run P w= .ok (u==v) w:=by
 simp[Op.equalIn,run_underlying w hu]
theorem b7U{t:TypeId}(hu:P.underlying t=some .bool)(u v:Bool)(w:World):(Op.equal t (.bool u) (.bool v)).run P w= .ok (u==v) w:=
 b6U 9999 hu u v w
theorem b8U{op:BinOp}{xt yt:TypeId}{x y:Operand}{neg:Bool}(hu:P.underlying xt=some .bool)(NR:op=if neg then .neq else .eql)
 (h:Z7 E n ψ s a w) (hk:ZP P d s K (.beq neg x y)):XY P E n ⟨dst, .binOp op xt x y yt,ty,pos,af,g⟩ a w K:=by
 have hx:=h.ev x;have hy:=h.ev y;simp only[ZP]at hk;generalize s.ev x=ax at hx hk;generalize s.ev y=ay at hy hk;split at hk
 ·rename_i u v;have e1:=VN hx;have e2:=VN hy;refine Wo h (v:= .bool (if neg then u != v else u==v)) ?_ hk (UP rfl);subst NR;intro w
  cases neg<;>simp[execOp,e1,e2,b3U,Go.binOp,b7U hu,bne]
 ·exact hk.elim
theorem b9U(k:Nat){t e:TypeId}(hu:P.underlying t=some (.pointer e))(u v:Option Addr)(w:World)(h:u=none\/v=none):
 (Op.equalIn (k+1) t (.pointer u) (.pointer v)).run P w= .ok (u.isNone&&v.isNone) w:=by
 cases u with
 |none=>simp[Op.equalIn,run_underlying w hu]
 |some u=>
  rcases h with h|h
  ·cases h
  ·subst h;simp[Op.equalIn,run_underlying w hu]
theorem b0V{t e:TypeId}(hu:P.underlying t=some (.pointer e))(u v:Option Addr)(w:World)(h:u=none\/v=none):
 (Op.equal t (.pointer u) (.pointer v)).run P w= .ok (u.isNone&&v.isNone) w:=b9U 9999 hu u v w h
theorem b1V{op:BinOp}{xt yt e:TypeId}{x y:Operand}{neg:Bool}(hu:P.underlying xt=some (.pointer e))(NR:op=if neg then .neq else .eql)
 (h:Z7 E n ψ s a w) (hk:ZP P d s K (.peq neg x y)):XY P E n ⟨dst, .binOp op xt x y yt,ty,pos,af,g⟩ a w K:=by
 have hx:=h.ev x;have hy:=h.ev y;simp only[ZP]at hk
 have run:∀u v:Option Addr,a.eval x= .pointer u->a.eval y= .pointer v->(u=none\/v=none)->∀w:World,
  (execOp a.eval ⟨dst, .binOp op xt x y yt,ty,pos,af,g⟩).run P w= .ok (.value (.bool (if neg then !(u.isNone&&v.isNone)else u.isNone&&v.isNone))) w:=by
  intro u v e1 e2 hn w;subst NR
  cases neg<;>simp[execOp,e1,e2,b3U,Go.binOp,b0V hu u v w hn]
 generalize s.ev x=ax at hx hk;generalize s.ev y=ay at hy hk;split at hk
 ·exact Wo h (run _ _ (VN hx) (VN hy) (.inl rfl)) (by cases neg<;>exact hk) (UP rfl)
 ·obtain⟨b,k,o,_,_,e2⟩:=ED hy;exact Wo h (run _ _ (VN hx) e2 (.inl rfl)) (by cases neg<;>exact hk) (UP rfl)
 ·obtain⟨b,off,vs,_,_,e2⟩:=b3T hy;exact Wo h (run _ _ (VN hx) e2 (.inl rfl)) (by cases neg<;>exact hk) (UP rfl)
 ·obtain⟨b,k,o,_,_,e1⟩:=ED hx;exact Wo h (run _ _ e1 (VN hy) (.inr rfl)) (by cases neg<;>exact hk) (UP rfl)
 ·obtain⟨b,off,vs,_,_,e1⟩:=b3T hx;exact Wo h (run _ _ e1 (VN hy) (.inr rfl)) (by cases neg<;>exact hk) (UP rfl)
 ·exact hk.elim
theorem b2V(k:Nat){t e:TypeId}(hu:P.underlying t=some (.slice e))(ad:Option Addr)(m c:Nat)(w:World):
 (Op.equalIn (k+1) t (.slice ad m c) (.slice none 0 0)).run P w= .ok ad.isNone w:=by
 cases ad<;>simp[Op.equalIn,run_underlying w hu]
theorem b3V{t e:TypeId}(hu:P.underlying t=some (.slice e))(ad:Option Addr)(m c:Nat)(w:World):
 (Op.equal t (.slice ad m c) (.slice none 0 0)).run P w= .ok ad.isNone w:=b2V 9999 hu ad m c w
theorem b4V{op:BinOp}{xt yt e:TypeId}{x:Operand}{neg:Bool}(hu:P.underlying xt=some (.slice e))(NR:op=if neg then .neq else .eql)
 (h:Z7 E n ψ s a w) (hk:ZP P d s K (.Qg neg x)):XY P E n ⟨dst, .binOp op xt x (.const (.slice none 0 0)) yt,ty,pos,af,g⟩ a w K:=by
 have hx:=h.ev x;simp only[ZP]at hk
 have run:∀ad m c,a.eval x= .slice ad m c->∀w:World,
  (execOp a.eval ⟨dst, .binOp op xt x (.const (.slice none 0 0)) yt,ty,pos,af,g⟩).run P w= .ok (.value (.bool (if neg then !ad.isNone else ad.isNone))) w:=by
  intro ad m c e1 w;subst NR;have e2:a.eval (.const (.slice none 0 0))= .slice none 0 0:=rfl
  cases neg<;>simp[execOp,e1,e2,b3U,Go.binOp,b3V hu ad m c w]
 generalize s.ev x=ax at hx hk;split at hk
 ·exact Wo h (run _ _ _ (Eu hx)) (by cases neg<;>exact hk) (UP rfl)
 ·rename_i id sz lo m;obtain⟨xs,xm,q1,he,q2,⟨p1,rfl,rfl,e1⟩|⟨b,k,cap,ad,p1,p2,p3,p4,e1⟩⟩:=Jg hx
  ·exact Wo h (run _ _ _ e1) (hk true (by omega)) (UP rfl)
  ·exact Wo h (run _ _ _ e1) (hk false (fun _=>rfl)) (UP rfl)
 ·rename_i sz xs
  rcases b7T hx with⟨rfl,e1⟩|⟨b,off,cap,ad,vs,q1,q2,q3,q4,q5,e1⟩
  ·exact Wo h (run _ _ _ e1) (hk true (fun h=>absurd rfl h)) (UP rfl)
  ·exact Wo h (run _ _ _ e1) (hk false (fun _=>rfl)) (UP rfl)
 ·exact hk.elim
theorem b5V{op:UnOp}{xt:TypeId}{x:Operand}(h:Z7 E n ψ s a w)(hk:ZP P d s K (.un op x)):
 XY P E n ⟨dst, .unOp op xt x,ty,pos,af,g⟩ a w K:=by
 have hx:=h.ev x;simp only[ZP]at hk;generalize s.ev x=ax at hx hk;split at hk
 ·rename_i v;have e1:=VN hx;split at hk
  ·rename_i z hz
   have:z.oneCell'=true/\∀w:World,(Op.unary op v).run P w= .ok z w:=by
    unfold unV at hz
    (repeat' split at hz)<;>cases hz<;>exact⟨rfl,fun _=>rfl⟩
   refine Wo h (v:=z) ?_ hk (UP this.1)
   exact fun w=>by simp[execOp,e1,this.2 w]
  ·exact hk.elim
 ·exact hk.elim
theorem b6V{sr ds:TypeId}{x:Operand}{k j:IntKind}(h1:P.underlying sr=some (.int j))(h2:P.underlying ds=some (.int k))(h:Z7 E n ψ s a w)
 (hk:ZP P d s K (.cvt k x)):XY P E n ⟨dst, .convert sr ds x,ty,pos,af,g⟩ a w K:=by
 have hx:=h.ev x;simp only[ZP]at hk;generalize s.ev x=ax at hx hk;split at hk
 ·rename_i q m;have e1:=VN hx;refine Wo h (v:= .int k (k.wrap m)) ?_ hk (UP rfl)
  exact fun w=>by simp[execOp,e1,convert,run_underlying w h1,run_underlying w h2,Conv.intToInt]
 ·exact hk.elim
theorem b7V{x:Operand}{i:Nat}(h:Z7 E n ψ s a w)(hk:ZP P d s K (.ext i x)):XY P E n ⟨dst, .extract x i,ty,pos,af,g⟩ a w K:=by
 have hx:=h.ev x;simp only[ZP]at hk;generalize s.ev x=ax at hx hk;split at hk
 ·rename_i vs;obtain⟨us,h1,h2,e⟩:=b5T hx;split at hk
  ·rename_i y hy;have hi:=(a7y.1 hy).1;refine Wo h (v:=us.getD i undef) ?_ hk (h2 i y hy);have:us[i]? =some (us.getD i undef):=getD_some (by omega)
   exact fun w=>by simp only[execOp,e,Instr.extract,this,Sem.run_bind,Sem.run_pure,Result.andThen_ok]
  ·exact hk.elim
 ·exact hk.elim
theorem b8V{t:TypeId}{e:TypeId}(hu:P.underlying t=some (.slice e))(ad:Option Addr)(m cap:Nat)(w:World)(ts:Array TypeId)(h0:ts[0]? =some t)(ty:TypeId):
 (Builtin.len_ ts ty #[.slice ad m cap]).run P w= .ok (.int .i64 m) w:=by
 simp[Builtin.len_,h0,run_underlying w hu,goInt]
theorem b9V{t:TypeId}(hu:P.underlying t=some .string)(x:ByteArray)(w:World)(ts:Array TypeId)(h0:ts[0]? =some t)(ty:TypeId):
 (Builtin.len_ ts ty #[.string x]).run P w= .ok (.int .i64 x.size) w:=by
 simp[Builtin.len_,h0,run_underlying w hu,goInt]
end
section
variable{P:Program}{E:En}{n:Nat}{ψ:Pl}{s:St}{a:Act}{w:World}
variable{dst:Option Nat}{ty:TypeId}{pos:String}{af:Array Edge}{g:Option (Nat×Bool)}{r:Wu}{d:Nat}{K:St->AV->Prop}
theorem c0v{x:Operand}{ts:Array TypeId}{v:Value}{w:World}(hv:(Builtin.len_ ts ty #[a.eval x]).run P w= .ok v w):
 (execOp a.eval ⟨dst, .call ⟨.builtin .len, #[x],ts⟩,ty,pos,af,g⟩).run P w= .ok (.value v) w:=by
 simp only[execOp,resolve,Sem.run_bind,Sem.run_pure,Result.andThen_ok,invoke,builtin];simp[hv]
theorem c1v{x:Operand}{t e:TypeId}{ts:Array TypeId}(h0:ts[0]? =some t)(hu:P.underlying t=some (.slice e))
 (h:Z7 E n ψ s a w) (hk:ZP P d s K (.len x)):XY P E n ⟨dst, .call ⟨.builtin .len, #[x],ts⟩,ty,pos,af,g⟩ a w K:=by
 have hx:=h.ev x;simp only[ZP]at hk
 have run:∀ad m cap,a.eval x= .slice ad m cap->∀w:World,(execOp a.eval ⟨dst, .call ⟨.builtin .len, #[x],ts⟩,ty,pos,af,g⟩).run P w= .ok (.value (.int .i64 m)) w:=by
  intro ad m cap e1 w;exact c0v (by rw[e1];exact b8V hu _ _ _ _ _ h0 _)
 generalize s.ev x=ax at hx hk;split at hk
 ·rename_i sz xs;obtain⟨ad,cap,e1⟩:=b9T hx (.inr (.inl ⟨sz,xs,rfl,rfl⟩));exact Wo h (run _ _ _ e1) hk (UP rfl)
 ·rename_i id sz lo m;obtain⟨ad,cap,e1⟩:=b9T hx (.inr (.inr ⟨id,sz,lo,rfl⟩));exact Wo h (run _ _ _ e1) hk (UP rfl)
 ·rename_i sz;obtain⟨ad,cap,e1⟩:=b9T hx (.inl ⟨sz,rfl,rfl⟩);exact Wo h (run _ _ _ e1) hk (UP rfl)
 ·exact hk.elim
theorem c2v{x:Operand}{t:TypeId}{ts:Array TypeId}(h0:ts[0]? =some t)(hu:P.underlying t=some .string)
 (h:Z7 E n ψ s a w) (hk:ZP P d s K (.lens x)):XY P E n ⟨dst, .call ⟨.builtin .len, #[x],ts⟩,ty,pos,af,g⟩ a w K:=by
 have hx:=h.ev x;simp only[ZP]at hk;generalize s.ev x=ax at hx hk;split at hk
 ·have e1:=VN hx;exact Wo h (fun w=>c0v (by rw[e1];exact b9V hu _ _ _ h0 _)) hk (UP rfl)
 ·exact hk.elim
theorem c3v{sT:TypeId}{x:Operand}{i:Nat}{fs:Array Field}{f:Field}{q:Nat}(hu:P.underlying sT=some (.struct fs))(hf:fs[i]? =some f)
 (hq:X7 P f.type=some q) (qa:q≠0) (h:Z7 E n ψ s a w) (hk:ZP P d s K (.fa f.offset x)):XY P E n ⟨dst, .fieldAddr sT x i,ty,pos,af,g⟩ a w K:=by
 have hx:=h.ev x;simp only[ZP]at hk
 have run:∀b o,a.eval x= .pointer (some ⟨b,o,none⟩)->∀w:World,(execOp a.eval ⟨dst, .fieldAddr sT x i,ty,pos,af,g⟩).run P w= .ok (.value (.pointer (some ⟨b,o+f.offset,none⟩))) w:=by
  intro b o e w;simp only[execOp,Instr.fieldAt,e,sure,Sem.run_bind,run_underlying w hu,Result.andThen_ok,hf,Sem.run_pure',fieldPlace,run_sizeOf w hq,if_neg qa,Sem.run_pure,Fk]
 generalize s.ev x=ax at hx hk;split at hk
 ·obtain⟨b,k,o,h1,h2,e⟩:=ED hx;exact Wo h (run _ _ e) hk (.ptr _ _ b k o h1 h2)
 ·rename_i id ZB i' off;obtain⟨b,k,o2,m2,h1,he,h2,h3,e⟩:=b2T hx;refine Wo h (run _ _ e) hk ?_;rw[show k.1+(i'*ZB+off)+f.offset=k.1+(i'*ZB+(off+f.offset))from by omega];exact .ep _ _ _ _ b k o2 m2 h1 he h2 h3
 ·obtain⟨b,o,vs,h1,h2,e⟩:=b3T hx;refine Wo h (run _ _ e) hk (.iv _ _ (.pt _ b _ (fun j=>vs (f.offset+j)) (fun j c hj=>?_) (fun j c hj=>?_)))
  ·rw[a9J]at hj;obtain⟨g1,g2⟩:=h1 _ _ hj;exact⟨g1,by rw[b3P];exact g2⟩
  ·rw[a9J]at hj;exact h2 _ _ hj
 ·exact hk.elim
theorem c4v{t:TypeId}{dd:TypeDesc}(hu:P.underlying t=some dd)(hg:XZ P t=false){vs:Array Value}{off:Nat}(ho:off<vs.size)(w:World):
 (part t vs off).run P w= .ok (vs.getD off undef) w:=by
 simp only[part,Sem.run_bind,e4g w hu,Result.andThen_ok,hg,a5M,if_false,getD_some ho (d:=undef),Sem.run_pure]
theorem c5v{t:TypeId}{dd:TypeDesc}(hu:P.underlying t=some dd)(hg:XZ P t=true){q:Nat}(hq:X7 P t=some q)(vs:Array Value)(off:Nat)(w:World):
 (part t vs off).run P w= .ok (.agg (vs.extract off (off+q))) w:=by
 simp only[part,Sem.run_bind,e4g w hu,Result.andThen_ok,hg,if_true,run_sizeOf w hq,Sem.run_pure]
theorem c6v(vs:Array Value)(off q:Nat):vs.extract off (off+q)=((vs.toList.drop off).take q).toArray:=by
 apply b3n;simp[Array.toList_extract,List.take_drop,List.extract_eq_take_drop,Nat.add_comm]
theorem c7v{sT:TypeId}{x:Operand}{i:Nat}{fs:Array Field}{f:Field}{q:Nat}{dd:TypeDesc}(hu:P.underlying sT=some (.struct fs))(hf:fs[i]? =some f)
 (hq:X7 P f.type=some q) (hd:P.underlying f.type=some dd) (h:Z7 E n ψ s a w) (hk:ZP P d s K (.WJ f.offset (if XZ P f.type then some q else none) x)):
 XY P E n ⟨dst, .field sT x i,ty,pos,af,g⟩ a w K:=by
 have hx:=h.ev x
 have run:∀vs v,a.eval x= .agg vs->(∀w:World,(part f.type vs f.offset).run P w= .ok v w)->∀w:World,(execOp a.eval ⟨dst, .field sT x i,ty,pos,af,g⟩).run P w= .ok (.value v) w:=by
  intro vs v e hv w;simp only[execOp,Instr.field,e,Sem.run_bind,run_underlying w hu,Result.andThen_ok,hf,asAgg,Sem.run_pure,hv w]
 by_cases hg:XZ P f.type=true
 ·rw[if_pos hg]at hk;simp only[ZP]at hk;generalize s.ev x=ax at hx hk;split at hk
  ·rename_i cs;obtain⟨hl,hk⟩:=hk;obtain⟨vs,h1,h2,e⟩:=qD hx;refine Wo h (run _ _ e (c5v hd hg hq vs f.offset)) hk ?_;rw[c6v];exact e0h h2 hl (by omega)
  ·exact hk.elim
 ·have hg:XZ P f.type=false:=by simpa using hg
  rw[hg]at hk;simp only[a5M,if_false,ZP]at hk;generalize s.ev x=ax at hx hk;split at hk
  ·rename_i cs;obtain⟨vs,h1,h2,e⟩:=qD hx;split at hk
   ·rename_i y hy;have:=(a7y.1 hy).1;exact Wo h (run _ _ e (c4v hd hg (by omega))) hk (h2 _ y hy)
   ·exact hk.elim
  ·exact hk.elim
theorem c8v{t e:TypeId}{x i:Operand}{sz:Nat}(hu:P.underlying t=some (.slice e))(Yd:X7 P e=some sz)(h:Z7 E n ψ s a w)
 (hk:ZP P d s K (.ia sz x i)):XY P E n ⟨dst, .indexAddr t x i,ty,pos,af,g⟩ a w K:=by
 have hx:=h.ev x;have hi:=h.ev i;simp only[ZP]at hk
 have run:∀ad m cap k j,a.eval x= .slice (some ad) m cap->a.eval i= .int k j->0<=j->j<m->∀w:World,
  (execOp a.eval ⟨dst, .indexAddr t x i,ty,pos,af,g⟩).run P w= .ok (.value (.pointer (some (ad.add (j.toNat*sz))))) w:=by
  intro ad m cap k j e1 e2 h1 h2 w;simp[execOp,Instr.indexAt,e1,e2,asIntOf,run_underlying w hu,run_sizeOf w Yd,h1,h2]
 generalize s.ev x=ax at hx hk;generalize s.ev i=ai at hi hk;split at hk
 ·rename_i ZB xs k m;obtain⟨rfl,hm,hk⟩:=hk;have e2:=VN hi;split at hk
  ·rename_i r hr;have ZV:=(a7y.1 hr).1
   rcases b7T hx with⟨rfl,_⟩|⟨b,off,cap,ad,vs,g1,g2,g3,g4,g5,e1⟩
   ·simp at ZV
   ·have ZS:xs≠[]:=by rintro rfl;simp at ZV
    have g1:=g1 ZS;subst g1;refine Wo h (run _ _ _ _ _ e1 e2 hm (by omega)) hk ?_;rw[Fk];refine .iv _ _ (.pt r b _ (fun j=>vs m.toNat j) (fun j c hj=>?_) (fun j c hj=>g5 _ _ _ (qE hr hj)));obtain⟨q1,q2⟩:=g4 _ _ _ (qE hr hj);exact⟨q1,by rw[b3P];exact q2⟩
  ·exact hk.elim
 ·rename_i id ZB o kk k m;obtain⟨rfl,hm,Uu,hk⟩:=hk;have e2:=VN hi;obtain⟨xs,xm,q1,he,q2,⟨_,_,rfl,_⟩|⟨b,c,cap,ad,p1,p2,p3,p4,e1⟩⟩:=Jg hx
  ·omega
  ·refine Wo h (run _ _ _ _ _ e1 e2 hm (by omega)) hk ?_;rw[p2 (by omega),Fk,show c.1+o*ZB+m.toNat*ZB=c.1+((o+m.toNat)*ZB+0)from by rw[a8M];omega];exact .ep id ZB (o+m.toNat) 0 b c xs xm q1 he (by omega) p1
 ·exact hk.elim
theorem c9v{t:TypeId}{x i:Operand}(hu:P.underlying t=some .string)(h:Z7 E n ψ s a w)
 (hk:ZP P d s K (.is x i)):XY P E n ⟨dst, .index t x i,ty,pos,af,g⟩ a w K:=by
 have hx:=h.ev x;have hi:=h.ev i;simp only[ZP]at hk;generalize s.ev x=ax at hx hk;generalize s.ev i=ai at hi hk;split at hk
 ·rename_i t' k m;obtain⟨hm,hk⟩:=hk;have e1:=VN hx;have e2:=VN hi;split at hk
  ·rename_i b hb;refine Wo h (v:= .int .u8 b.toNat) ?_ hk (UP rfl)
   exact fun w=>by simp[execOp,Instr.index,e1,e2,asIntOf,run_underlying w hu,hm,hb]
  ·exact hk.elim
 ·exact hk.elim
theorem c0w{t e:TypeId}{x i:Operand}{q:Nat}{dd:TypeDesc}(hu:P.underlying t=some (.array q e))(Yd:X7 P e=some 1)(hg:XZ P e=false)(hd:P.underlying e=some dd)(h:Z7 E n ψ s a w)
 (hk:ZP P d s K (.ix q x i)):XY P E n ⟨dst, .index t x i,ty,pos,af,g⟩ a w K:=by
 have hx:=h.ev x;have hi:=h.ev i;simp only[ZP]at hk;generalize s.ev x=ax at hx hk;generalize s.ev i=ai at hi hk;split at hk
 ·rename_i cs k m;obtain⟨hm,ZV,hk⟩:=hk;obtain⟨vs,h1,h2,e1⟩:=qD hx;have e2:=VN hi;split at hk
  ·rename_i y hy;have:=(a7y.1 hy).1;refine Wo h ?_ hk (h2 _ y hy);intro w;have hp:=c4v (P:=P) hd hg (vs:=vs) (off:=m.toNat) (by omega) w;simp[execOp,Instr.index,e1,e2,asIntOf,run_underlying w hu,run_sizeOf w Yd,hm,ZV,hp]
  ·exact hk.elim
 ·exact hk.elim
theorem c1w{x:Operand}{k:IntKind}{m:Int}(hx:a.eval x= .int k m){y:Nat}(h0:0<=m)(h1:m<=y)(code:BoundsCode)(w:World):
 (Instr.sliceBound (a.eval x) y code).run P w= .ok m.toNat w:=by
 simp[Instr.sliceBound,hx,asIntOf,h0,h1]
theorem c2w{x:Operand}{f0P:Nat}{m:Int}(h:Z7 E n ψ s a w)(hb:s.bound f0P (some x)=some m):∃k,a.eval x= .int k m:=by
 have hx:=h.ev x;simp only[St.bound]at hb;generalize s.ev x=ax at hx hb;split at hb
 ·rename_i k q;cases hb;exact⟨k,VN hx⟩
 ·cases hb
theorem c3w{lo hi:Option Operand}{len cap:Nat}{l m:Int}(h:Z7 E n ψ s a w)(hl:s.bound 0 lo=some l)(hh:s.bound len hi=some m)(h0:0<=l)(h1:l<=m)
 (h2:m<=len) (h3:len<=cap) (w':World):(Instr.sliceBounds true len cap (lo.map a.eval) (hi.map a.eval) none).run P w'= .ok (l.toNat,m.toNat,cap) w':=by
 have hlo:lo=none->l=0:=by rintro rfl;simpa[St.bound,eq_comm]using hl
 have hhi:hi=none->m=len:=by rintro rfl;simpa[St.bound,eq_comm]using hh
 have rl:∀x,lo=some x->∀y:Nat,l<=y->∀c,(Instr.sliceBound (a.eval x) y c).run P w'= .ok l.toNat w':=by
  rintro x rfl y hy c;obtain⟨k,e⟩:=c2w h hl;exact c1w e h0 hy c w'
 have rh:∀x,hi=some x->∀y:Nat,m<=y->∀c,(Instr.sliceBound (a.eval x) y c).run P w'= .ok m.toNat w':=by
  rintro x rfl y hy c;obtain⟨k,e⟩:=c2w h hh;exact c1w e (by omega) hy c w'
 unfold Instr.sliceBounds
 cases hi with
 |none=>
  have hm:=hhi rfl
  have rU:m.toNat=len:=by omega
  cases lo with
  |none=>have NN:=hlo rfl;subst NN;simp[rU]
  |some x=>simp[rl x rfl len (by omega),rU]
 |some y=>
  cases lo with
  |none=>have NN:=hlo rfl;subst NN;simp[rh y rfl cap (by omega)]
  |some x=>simp[rh y rfl cap (by omega),rl x rfl m.toNat (by omega)]
theorem c4w{t e:TypeId}{x:Operand}{lo hi:Option Operand}{sz:Nat}(hu:P.underlying t=some (.slice e))(Yd:X7 P e=some sz)(h:Z7 E n ψ s a w)
 (hk:ZP P d s K (.cut sz x lo hi)):XY P E n ⟨dst, .slice t x lo hi none,ty,pos,af,g⟩ a w K:=by
 have hx:=h.ev x;simp only[ZP]at hk
 have run:∀ad len cap l m,a.eval x= .slice ad len cap->s.bound 0 lo=some l->s.bound len hi=some m->0<=l->l<=m->m<=len->len<=cap->∀w:World,
  (execOp a.eval ⟨dst, .slice t x lo hi none,ty,pos,af,g⟩).run P w=
   .ok (.value (.slice (if cap=l.toNat then ad else ad.map (·.add (l.toNat*sz))) (m.toNat-l.toNat) (cap-l.toNat))) w:=by
  intro ad len cap l m e1 hl hm g0 g1 g2 g3 w;simp only[execOp,Option.map_none,Instr.sliceAt,Instr.slice,e1,Sem.run_bind,run_underlying w hu,Result.andThen_ok,c3w h hl hm g0 g1 g2 g3 w,run_sizeOf w Yd,Sem.run_pure]
 generalize s.ev x=ax at hx hk;split at hk
 ·rename_i ZB xs;split at hk
  ·rename_i l m hl hm;obtain⟨rfl,g0,g1,g2,hk⟩:=hk
   rcases b7T hx with⟨rfl,e1⟩|⟨b,off,cap,ad,vs,q1,q2,q3,q4,q5,e1⟩
   ·simp only[c4n]at hm g2;refine Wo h (run _ _ _ _ _ e1 hl hm g0 g1 (by simpa using g2) (a8F _)) hk ?_
    have NN:l=0:=by simp at g2;omega
    have Gq:m=0:=by simp at g2;omega
    subst NN;subst Gq;simp;exact .iv _ _ (.Wj _)
   ·refine Wo h (run _ _ _ _ _ e1 hl hm g0 g1 g2 q3) hk ?_
    have hlen:((xs.drop l.toNat).take (m-l).toNat).length=m.toNat-l.toNat:=by simp;omega
    have key:=YB.Z6 (A:=Im E ψ s.hp) (w:=w) ZB ((xs.drop l.toNat).take (m-l).toNat) b (off+l.toNat*ZB) (cap-l.toNat)
     (if cap=l.toNat then ad else ad.add (l.toNat*ZB)) (fun i j=>vs (l.toNat+i) j)
     (fun ZS=>by
      have h1:0<m.toNat-l.toNat:=by
       rcases b5j (m.toNat-l.toNat)with h0|h0
       ·exact absurd (a8R (by omega)) ZS
       ·exact h0
      have f1P:xs≠[]:=by rintro rfl;simp at g2;omega
      rw[if_neg (by omega),q1 f1P,Fk])
     (fun y hy=>q2 y (b3M (b4j hy))) (by omega)
     (fun i j c Xo=>by
      obtain⟨p1,p2⟩:=q4 _ _ _ (d0C _ _ _ _ _ _ Xo);refine⟨p1,?_⟩;rw[<-p2,a8M]
      congr 2
      omega)
     (fun i j c Xo=>q5 _ _ _ (d0C _ _ _ _ _ _ Xo))
    rw[hlen]at key;refine .iv _ _ ?_
    have e3:(if cap=l.toNat then some ad else d2Q (fun x=>x.add (l.toNat*ZB)) (some ad))=some (if cap=l.toNat then ad else ad.add (l.toNat*ZB)):=by
     split<;>rfl
    rw[e3];exact key
  ·exact hk.elim
 ·rename_i id ZB o len;split at hk
  ·rename_i l m hl hm;obtain⟨rfl,g0,g1,g2,hk⟩:=hk;obtain⟨xs,xm,q1,he,q2,⟨p1,rfl,rfl,e1⟩|⟨b,c,cap,ad,p1,p2,p3,p4,e1⟩⟩:=Jg hx
   ·refine Wo h (run _ _ _ _ _ e1 hl hm g0 g1 (by omega) (a8F _)) hk ?_
    have NN:l=0:=by omega
    have Gq:m=0:=by omega
    subst NN;subst Gq;simp;exact .U4 id ZB xs xm q1 he p1
   ·refine Wo h (run _ _ _ _ _ e1 hl hm g0 g1 (by omega) p3) hk ?_
    have e3:(if cap=l.toNat then some ad else d2Q (fun x=>x.add (l.toNat*ZB)) (some ad))=some (if cap=l.toNat then ad else ad.add (l.toNat*ZB)):=by
     split<;>rfl
    rw[e3,show m.toNat-l.toNat=(m-l).toNat from by omega];refine .sl id ZB (o+l.toNat) (m-l).toNat b c (cap-l.toNat) _ xs xm q1 he (by omega) p1 (fun hc=>?_) (by omega) ?_ (by rw[e1]at hx;have:=b0U hx;omega)
    ·rw[if_neg (by omega),p2 (by omega),Fk,a8M,b3P]
    ·refine a9L ?_ p4;exact a5E ZB (by omega)
  ·exact hk.elim
 ·rename_i ZB;split at hk
  ·rename_i l m hl hm;obtain⟨rfl,rfl,hk⟩:=hk;have e1:=Eu hx;refine Wo h (run _ _ _ _ _ e1 hl hm (by omega) (by omega) (by omega) (a8F _)) hk ?_;simp;exact .nil _
  ·exact hk.elim
 ·exact hk.elim
end
theorem IC:∀(vs:List Value) (q:List Nat),(O9 vs q).length=vs.length:=by
 intro vs
 induction vs with
 |nil=>intro q;cases q<;>rfl
 |cons v vs ih=>intro q;cases q<;>simp[O9,ih]
theorem qu:∀(vs:List Value) (q:List Nat) (i:Nat) (x:AV),(O9 vs q)[i]? =some x->∃sz,x=Iz sz (vs.getD i undef):=by
 intro vs
 induction vs with
 |nil=>intro q i x h;cases q<;>simp[O9]at h
 |cons v vs ih=>
  intro q i x h
  cases q with
  |nil=>
   cases i with
   |zero=>simp only[O9,a9E,a5y]at h;exact⟨0,h.symm⟩
   |succ i=>simp only[O9,a2I]at h;obtain⟨sz,e⟩:=ih _ _ _ h;exact⟨sz,by simpa using e⟩
  |cons k q=>
   cases i with
   |zero=>simp only[O9,a9E,a5y]at h;exact⟨k,h.symm⟩
   |succ i=>simp only[O9,a2I]at h;obtain⟨sz,e⟩:=ih _ _ _ h;exact⟨sz,by simpa using e⟩
theorem SK(c:Array Value)(i:Nat):c.toList.getD i undef=c.getD i undef:=by
 simp[a7V,a4E]
theorem qH{A:Nat->Prop}{ψ:Pl}{H:Hp}{w:World}{x:AV}{v:Value}(h:ZK A ψ H w x v){cs:List AV}(hc:x.cellsOf=some cs):
 v.cells.size=cs.length/\∀i c,cs[i]? =some c->ZK A ψ H w c (v.cells.getD i undef):=by
 have one:v.oneCell'=true->cs=[x]->v.cells.size=cs.length/\∀i c,cs[i]? =some c->ZK A ψ H w c (v.cells.getD i undef):=by
  rintro h1 rfl;rw[e2f h1];refine⟨rfl,fun i c hi=>?_⟩
  cases i with
  |zero=>simp at hi;subst hi;exact h
  |succ i=>simp at hi
 cases h with
 |agg cs' vs hl hh=>simp only[AV.cellsOf,a5y]at hc;subst hc;exact⟨hl,hh⟩
 |Zp=>simp[AV.cellsOf]at hc
 |un=>simp[AV.cellsOf]at hc
 |junk=>simp[AV.cellsOf]at hc
 |iv x v h'=>exact one h'.one (by simpa[AV.cellsOf,eq_comm]using hc)
 |nil=>exact one rfl (by simpa[AV.cellsOf,eq_comm]using hc)
 |U4=>exact one rfl (by simpa[AV.cellsOf,eq_comm]using hc)
 |sl=>exact one rfl (by simpa[AV.cellsOf,eq_comm]using hc)
 |ptr=>exact one rfl (by simpa[AV.cellsOf,eq_comm]using hc)
 |ep=>exact one rfl (by simpa[AV.cellsOf,eq_comm]using hc)
 |mpr=>exact one rfl (by simpa[AV.cellsOf,eq_comm]using hc)
 |fn=>exact one rfl (by simpa[AV.cellsOf,eq_comm]using hc)
theorem JY(s:St)(id:Nat):look (s.drop id).hp id=none:=by
 unfold St.drop;split
 ·assumption
 ·simp only[Iy,if_true]
section
variable{P:Program}{E:En}{n:Nat}{ψ:Pl}{s:St}{a:Act}{w:World}
variable{dst:Option Nat}{ty:TypeId}{pos:String}{af:Array Edge}{g:Option (Nat×Bool)}{r:Wu}{d:Nat}{K:St->AV->Prop}
theorem qq(w:World)(o:Obj):(w.alloc o).heap[w.heap.size]? =some o:=by
 show(w.heap.push o)[w.heap.size]? =_
 simp
theorem a6E{o:Op}{x:Operand}(ho:o= .move x\/o= .assign x)(h:Z7 E n ψ s a w)(hk:ZP P d s K (.Td x)):
 XY P E n ⟨dst,o,ty,pos,af,g⟩ a w K:=by
 simp only[ZP]at hk;refine Wo h (v:=a.eval x) ?_ hk (h.ev x)
 exact fun w=>by rcases ho with rfl|rfl<;>rfl
theorem a7E{o:Op}{sz:Nat}(ho:o= .move (.const (.slice none 0 0))\/o= .assign (.const (.slice none 0 0)))(hd:d<1000)(h:Z7 E n ψ s a w)
 (hk:ZP P d s K (.Ix sz)):X6 P E n ⟨dst,o,ty,pos,af,g⟩ a w K:=by
 simp only[ZP]at hk;have h1:=h.drop (id:=d) hd
 have h2:=h1.new (o:= .list sz []) (p:=none) hd (JY s d) (Ext.refl w) (fun _ _ e=>by cases e)
  ⟨(fun x hx=>by cases hx), .inl ⟨by simp[XF],rfl⟩⟩
 refine SH (v:= .slice none 0 0) ?_ hk h2 ?_
 ·rcases ho with rfl|rfl<;>rfl
 ·exact .U4 d sz (.list sz []) 0 (by simp[WX]) rfl (by simp[XF])
theorem a8E{o:Oper}{cs:List AV}{c:Array Value}{t:TypeId}(hd:d<1000)(h:Z7 E n ψ s a w)(hlen:c.size=cs.length)
 (hc:∀i x,cs[i]? =some x->ZK (Im E ψ (s.drop d).hp) ψ (s.drop d).hp w x (c.getD i undef))
 (hr:(execOp a.eval o).run P w= .ok (.value (.pointer (some ⟨w.heap.size,0,none⟩))) (w.alloc (.cells c t)))
 (hk:K ((s.drop d).add d (.box cs)) (.ptr d 0)):X6 P E n o a w K:=by
 have h1:=h.drop (id:=d) hd;have Y6:=JY s d
 have WC:∀q,Vt ψ (XF ψ d q) (s.drop d).hp ((s.drop d).add d (.box cs)).hp:=by
  intro q k ob hk
  have ZS:k≠d:=by rintro rfl;rw[Y6]at hk;cases hk
  exact⟨⟨ob,by rw[WX,if_neg (Ne.symm ZS)];exact hk,ob.le_refl⟩,by simp[XF,ZS]⟩
 have h2:=h1.new (o:= .box cs) (p:=some (w.heap.size,(0,c.size))) hd Y6 (Ext.alloc w (.cells c t)) (fun b k e=>by cases e;exact a8F _)
  ⟨w.heap.size,c,t,by simp[XF],qq _ _,hlen,fun i x hx=>
   (hc i x hx).mono (fun b hb hi=>⟨hb,hi⟩) (fun b hb _=>(Ext.alloc w (.cells c t)).block b hb) (WC _)⟩
 exact SH hr hk h2 (.ptr d 0 w.heap.size (0,c.size) (.box cs) (by simp[WX]) (by simp[XF]))
theorem Fl{t:TypeId}{z:List AV}(hz:Q6 P t=some z):∃i zv,P.info? t=some i/\i.zero=some zv/\z=O9 zv.cells.toList (sj P 20 t):=by
 unfold Q6 at hz
 cases hi:P.info? t with
 |none=>rw[hi]at hz;cases hz
 |some i=>
  rw[hi]at hz
  cases hv:i.zero with
  |none=>simp[hv]at hz
  |some zv=>simp[hv]at hz;exact⟨i,zv,rfl,hv,hz.symm⟩
theorem IB{t:TypeId}{i:TypeInfo}{zv:Value}(h1:P.info? t=some i)(h2:i.zero=some zv)(w:World):(zeroValue t).run P w= .ok zv w:=by
 simp[zeroValue,typeInfo,h1,h2]
theorem a1F{t:TypeId}{z:List AV}(hz:Q6 P t=some z)(hd:d<1000)(h:Z7 E n ψ s a w)(hk:ZP P d s K (.alloc z)):
 X6 P E n ⟨dst, .alloc t,ty,pos,af,g⟩ a w K:=by
 simp only[ZP]at hk;obtain⟨i,zv,h1,h2,rfl⟩:=Fl hz;refine a8E (c:=zv.cells) (t:=t) hd h (by rw[IC];simp) (fun j x hx=>?_) ?_ hk
 ·obtain⟨sz,e⟩:=qu _ _ _ _ hx;rw[e,SK];exact Ew _ _
 ·simp[execOp,Instr.alloc,IB h1 h2,newVar,newRow]
theorem a2F{t:TypeId}{x:Operand}(hd:d<1000)(h:Z7 E n ψ s a w)(hk:ZP P d s K (.box x)):
 X6 P E n ⟨dst, .box t x,ty,pos,af,g⟩ a w K:=by
 simp only[ZP]at hk;have hx:=(h.drop (id:=d) hd).ev x;split at hk
 ·rename_i cs hcs;obtain⟨g1,g2⟩:=qH hx hcs;refine a8E (c:=(a.eval x).cells) (t:=t) hd h g1 g2 ?_ hk;simp[execOp,Instr.box,newVar,newRow]
 ·exact hk.elim
theorem a3F{mx:Bool}:∀(l:List AV) (vs:List Value) (k:IntKind) (m:Int) {k':IntKind} {m':Int} {A:Nat->Prop} {H:Hp},
 vs.length=l.length->(∀i x,l[i]? =some x->ZK A ψ H w x (vs.getD i undef))->Et mx k m l=some (k',m')->
 (vs.foldlM (if mx then Builtin.max2 else Builtin.min2) (.int k m):Sem Value).run P w= .ok (.int k' m') w:=by
 intro l
 induction l with
 |nil=>
  intro vs k m k' m' A H hl _ he
  cases vs with
  |nil=>simp only[Et,a5y,a6J]at he;obtain⟨rfl,rfl⟩:=he;rfl
  |cons=>simp at hl
 |cons x l ih=>
  intro vs k m k' m' A H hl hv he
  cases vs with
  |nil=>simp at hl
  |cons v vs=>
   unfold Et at he;split at he
   ·cases g4o:(v::vs)[0]? <;>simp_all
   ·rename_i k2 m2 r heq;cases heq;have h0:=hv 0 _ rfl
    have hv0:v= .int k2 m2:=by simpa using VN h0
    subst hv0;rw[c5L]
    have e:((if mx then Builtin.max2 else Builtin.min2) (.int k m) (.int k2 m2):Sem Value).run P w= .ok (.int k (if mx then max m m2 else min m m2)) w:=by
     cases mx
     ·simp only[a5M,if_false,Builtin.min2,Sem.run_pure]
      congr 2;rw[Int.min_def];split<;>split<;>omega
     ·simp only[if_true,Builtin.max2,Sem.run_pure]
      congr 2;rw[Int.max_def];split<;>split<;>omega
    rw[Sem.run_bind,e];simp only[Result.andThen_ok];exact ih vs k _ (by simpa using hl) (fun i y hy=>by simpa using hv (i+1) y (by simpa using hy)) he
   ·cases he
theorem a4F{w:World}{xs:Array Operand}{ts:Array TypeId}{v:Value}{mx:Bool}
 (hv:(if mx then Builtin.max_ ts ty (xs.map a.eval)else Builtin.min_ ts ty (xs.map a.eval)).run P w= .ok v w):
 (execOp a.eval ⟨dst, .call ⟨.builtin (if mx then .max else .min),xs,ts⟩,ty,pos,af,g⟩).run P w= .ok (.value v) w:=by
 cases mx<;>simp only[execOp,resolve,Sem.run_bind,Sem.run_pure,Result.andThen_ok,invoke,builtin,a5M,if_false,if_true]at hv⊢ <;>rw[hv]<;>rfl
theorem a5F{xs:Array Operand}{ts:Array TypeId}{mx:Bool}(h:Z7 E n ψ s a w)(hk:ZP P d s K (.mm mx xs.toList)):
 X6 P E n ⟨dst, .call ⟨.builtin (if mx then .max else .min),xs,ts⟩,ty,pos,af,g⟩ a w K:=by
 simp only[ZP]at hk;split at hk
 ·rename_i k m he;refine e1g h (v:= .int k m) (a4F ?_) hk (UP rfl)
  cases JX:xs.toList with
  |nil=>rw[JX]at he;simp[c6V]at he
  |cons x r=>
   rw[JX,a0G]at he;unfold c6V at he;split at he
   ·rename_i k0 n0 r0 heq;simp only[a4S]at heq;obtain⟨h0,hr⟩:=heq;have hx:=h.ev x;rw[h0]at hx;have e0:=VN hx
    have e1:(xs.map a.eval).toList= .int k0 n0::r.map a.eval:=by rw[c3K,JX,a0G,e0]
    subst hr
    have key:=a3F (P:=P) (r.map s.ev) (r.map a.eval) k0 n0 (by simp) (fun i y hy=>by
     rw[a0C]at hy
     cases hri:r[i]? with
     |none=>rw[hri]at hy;cases hy
     |some z=>rw[hri]at hy;cases hy;simp only[a7V,a0C,hri,a4G,a2L];exact h.ev z) he
    cases mx
    ·simp only[a5M,if_false]at key⊢;unfold Builtin.min_;rw[e1];exact key
    ·simp only[if_true]at key⊢;unfold Builtin.max_;rw[e1];exact key
   ·cases he
 ·exact hk.elim
theorem a6F{xs:List Operand}{l:List Z3}(h:Z7 E n ψ s a w)(hm:(xs.map s.ev).mapM AV.cap=some l):
 l.length=xs.length/\∀i c,l[i]? =some c->Xg (Im E ψ s.hp) ψ s.hp w c ((xs.map a.eval).getD i undef):=by
 induction xs generalizing l with
 |nil=>simp at hm;subst hm;exact⟨rfl,by simp⟩
 |cons x xs ih=>
  simp only[a0G,a3N,a1V]at hm
  cases hc:(s.ev x).cap with
  |none=>rw[hc]at hm;cases hm
  |some c0=>
   rw[hc]at hm
   cases hr:(xs.map s.ev).mapM AV.cap with
   |none=>rw[hr]at hm;cases hm
   |some l0=>
    rw[hr]at hm;simp at hm;subst hm;obtain⟨g1,g2⟩:=ih hr;refine⟨by simp[g1],fun i c hi=>?_⟩
    cases i with
    |zero=>
     simp at hi;subst hi;simp only[a0G,c0F];have hx:=h.ev x;generalize s.ev x=ax at hx hc;generalize a.eval x=vx at hx
     cases hx with
     |ptr id off b k o ho hb=>simp[AV.cap]at hc;subst hc;exact .ptr id off b k o ho hb
     |iv y v hy=>simp[AV.cap]at hc;subst hc;exact .val _ _ hy
     |nil sz=>simp[AV.cap]at hc;subst hc;exact .val _ _ (.Wj _)
     | _=>simp[AV.cap]at hc
    |succ i=>simp only[a2I]at hi;simpa using g2 i c hi
theorem a7F{f:FuncId}{first caps:Array Operand}(h:Z7 E n ψ s a w)(hk:ZP P d s K (.V6 f first.toList caps.toList)):
 XY P E n ⟨dst, .makeFunc (.func f) first caps,ty,pos,af,g⟩ a w K:=by
 simp only[ZP]at hk;split at hk
 ·rename_i l1 l2 e1 e2;obtain⟨a1,a2⟩:=a6F h e1;obtain⟨b1,b2⟩:=a6F h e2;refine Wo h (v:= .func (.func f) (first.map a.eval) (caps.map a.eval)) (fun w=>by simp[execOp,Instr.makeFunc]) hk ?_;refine .fn f l1 l2 _ _ (by simp[a1]) (by simp[b1]) (fun i c hi=>?_) (fun i c hi=>?_)
  ·rw[<-SK,c3K];exact a2 i c hi
  ·rw[<-SK,c3K];exact b2 i c hi
 ·exact hk.elim
end
def U5(c:Array Value)(off:Nat)(vs:List Value):Array Value:=(vs.zipIdx.foldl (fun cs (x,j)=>cs.setIfInBounds (off+j) x) c)
theorem a7C(off:Nat):∀(vs:List Value) (k:Nat) (c:Array Value),
 ((vs.zipIdx k).foldl (fun cs (x,j)=>cs.setIfInBounds (off+j) x) c).size=c.size∧
 ∀q,q<c.size->((vs.zipIdx k).foldl (fun cs (x,j)=>cs.setIfInBounds (off+j) x) c).getD q undef=if off+k<=q/\q<off+k+vs.length then vs.getD (q-(off+k)) undef else c.getD q undef:=by
 intro vs
 induction vs with
 |nil=>intro k c;refine⟨rfl,fun q hq=>?_⟩;simp;intro h1 h2;omega
 |cons v vs ih=>
  intro k c;simp only[d2u,b0k];obtain⟨h1,h2⟩:=ih (k+1) (c.setIfInBounds (off+k) v);refine⟨by rw[h1];simp,fun q hq=>?_⟩;rw[h2 q (by simpa using hq)]
  by_cases e:q=off+k
  ·subst e;rw[if_neg (by omega),if_pos (by simp)];simp[a4E,hq]
  ·by_cases Yq:off+k<=q/\q<off+k+(v::vs).length
   ·rw[if_pos (by simp at Yq⊢;omega),if_pos Yq];rw[show q-(off+k)=(q-(off+(k+1)))+1 from by omega,List.getD_cons_succ]
   ·rw[if_neg (by simp at Yq⊢;omega),if_neg Yq];simp only[a4E];rw[Array.getElem?_setIfInBounds_ne (Ne.symm e)]
theorem IN(c:Array Value)(off:Nat)(vs:List Value):(U5 c off vs).size=c.size:=(a7C off vs 0 c).1
theorem Fq(c:Array Value)(off:Nat)(vs:List Value)(q:Nat)(hq:q<c.size):
 (U5 c off vs).getD q undef=if off<=q/\q<off+vs.length then vs.getD (q-off) undef else c.getD q undef:=by
 have:=(a7C off vs 0 c).2 q hq;simpa[U5]using this
theorem a0D{α:Type}(z:List α)(off:Nat)(cs:List α)(h:off+cs.length<=z.length):(Zc z off cs).length=z.length:=by
 simp[Zc];omega
theorem a1D{α:Type}(z:List α)(off:Nat)(cs:List α)(h:off+cs.length<=z.length)(i:Nat):
 (Zc z off cs)[i]? =if off<=i/\i<off+cs.length then cs[i-off]? else z[i]? :=by
 unfold Zc;rw[c1y]
 by_cases h1:i<off
 ·rw[a1N (by simp;omega),if_neg (by omega),a5N,if_pos h1]
 ·rw[a5V (by simp;omega)]
  have e:(z.take off).length=off:=by simp;omega
  rw[e]
  by_cases h2:i<off+cs.length
  ·rw[a1N (by omega),if_pos (by omega)]
  ·rw[a5V (by omega),if_neg (by omega),a9J]
   congr 1;omega
section
variable{A:Nat->Prop}{ψ:Pl}{H:Hp}{w:World}
theorem a2D{z:List AV}{c:Array Value}{off:Nat}{cs:List AV}{vs:List Value}(hz:c.size=z.length)(h1:∀i x,z[i]? =some x->ZK A ψ H w x (c.getD i undef))
 (hl:vs.length=cs.length) (h2:∀i x,cs[i]? =some x->ZK A ψ H w x (vs.getD i undef)) (Yq:off+cs.length<=z.length):
 ∀i x,(Zc z off cs)[i]? =some x->ZK A ψ H w x ((U5 c off vs).getD i undef):=by
 intro i x hx
 have hi:i<z.length:=by rw[<-a0D z off cs Yq];exact(a7y.1 hx).1
 rw[a1D z off cs Yq]at hx;rw[Fq c off vs i (by omega),hl];split at hx
 ·rename_i h;rw[if_pos h];exact h2 _ _ hx
 ·rename_i h;rw[if_neg h];exact h1 _ _ hx
end
section
variable{P:Program}{E:En}{n:Nat}{ψ:Pl}{s:St}{a:Act}{w:World}
variable{dst:Option Nat}{ty:TypeId}{pos:String}{af:Array Edge}{g:Option (Nat×Bool)}{r:Wu}{d:Nat}{K:St->AV->Prop}
theorem a3D(h:Z7 E n ψ s a w)(Wm:Nat->Option (Nat×Nat)):∀(l:List (Nat×Operand)) (l':List (Nat×Nat×Operand)) (z z':List AV) (c:Array Value),
 (l'.map (·.2.2)=l.map (·.2))->(∀k:Nat,(l'[k]?).map (fun(p:Nat×Nat×Operand)=>(p.1,p.2.1))=(l[k]?).bind fun(p:Nat×Operand)=>Wm p.1)->c.size=z.length->(∀i x,z[i]? =some x->ZK (Im E ψ s.hp) ψ s.hp w x (c.getD i undef))->
 Fo s z l'=some z'->∃c',Instr.fill Wm c (l.map fun p=>(p.1,a.eval p.2))=some c'/\c'.size=z'.length/\∀i x,z'[i]? =some x->ZK (Im E ψ s.hp) ψ s.hp w x (c'.getD i undef):=by
 intro l
 induction l with
 |nil=>
  intro l' z z' c hm hp hz hr hf
  cases l' with
  |nil=>simp only[Fo,a5y]at hf;subst hf;exact⟨c,rfl,hz,hr⟩
  |cons=>simp at hm
 |cons p l ih=>
  intro l' z z' c hm hp hz hr hf
  cases l' with
  |nil=>simp at hm
  |cons p' l'=>
   obtain⟨i,x⟩:=p;obtain⟨off,q,x'⟩:=p';simp only[a0G,a4S]at hm;obtain⟨rfl,hm⟩:=hm;have h0:=hp 0;simp only[a9E,a4G,a5J]at h0;simp only[Fo]at hf;split at hf
   ·rename_i cs hcs;split at hf
    ·rename_i hc;obtain⟨g1,g2⟩:=qH (h.ev x') hcs
     have hlen:(a.eval x').cells.toList.length=cs.length:=by simpa using g1
     obtain⟨c',e1,e2,e3⟩:=ih l' (Zc z off cs) z' (U5 c off (a.eval x').cells.toList) hm (fun k=>by simpa using hp (k+1))
      (by rw[IN,a0D _ _ _ (by omega)];exact hz)
      (a2D hz hr hlen (fun i y hy=>by rw[SK];exact g2 i y hy) (by omega)) hf
     refine⟨c',?_,e2,e3⟩;simp only[a0G,Instr.fill, <-h0];rw[if_neg (by simp;omega)];rw[<-e1]
     congr 1
     unfold U5;rw[<-d7l];simp[d1f]
    ·cases hf
   ·cases hf
theorem a4D(fs:Array Field){β:Type}(f:Field->Sem β)(q:Field->β)(w:World)(h:∀x∈fs,(f x).run P w= .ok (q x) w):(fs.mapM f).run P w= .ok (fs.map q) w:=by
 rw[Array.mapM_eq_mapM_toList];rw[Sem.run_map]
 have key:∀l:List Field,(∀x∈l,(f x).run P w= .ok (q x) w)->(l.mapM f).run P w= .ok (l.map q) w:=by
  intro l
  induction l with
  |nil=>intro _;rfl
  |cons x l ih=>
   intro hl;rw[a3N,Sem.run_bind,hl x (by simp)];simp only[Result.andThen_ok,Sem.run_bind];rw[ih fun y hy=>hl y (by simp[hy])];rfl
 rw[key fs.toList fun x hx=>h x (by simpa using hx)];simp only[Result.andThen_ok]
 congr 1
 apply b3n;simp
theorem a5D{t:TypeId}{parts:Array (Nat×Operand)}{fs:Array Field}{z:List AV}{l:List (Nat×Nat×Operand)}(hu:P.underlying t=some (.struct fs))
 (hz:Q6 P t=some z) (Zt:∀f∈fs,(X7 P f.type).isSome=true)
 (hl:(parts.toList.mapM fun(p:Nat×Operand)=>do let f<-fs[p.1]?;let q<-X7 P f.type;pure (f.offset,q,p.2))=some l)
 (h:Z7 E n ψ s a w) (hk:ZP P d s K (.build z l)):XY P E n ⟨dst, .build t parts,ty,pos,af,g⟩ a w K:=by
 simp only[ZP]at hk;obtain⟨i,zv,h1,h2,rfl⟩:=Fl hz;split at hk
 ·rename_i cs hcs
  let Wm:Nat->Option (Nat×Nat):=((fs.map fun f=>(f.offset,(X7 P f.type).getD 0))[·]?)
  have UN:∀(L:List (Nat×Operand)) (l:List (Nat×Nat×Operand)),(L.mapM fun(p:Nat×Operand)=>do let f<-fs[p.1]?;let q<-X7 P f.type;pure (f.offset,q,p.2))=some l->
   (l.map (·.2.2)=L.map (·.2))/\∀k:Nat,(l[k]?).map (fun(p:Nat×Nat×Operand)=>(p.1,p.2.1))=(L[k]?).bind fun(p:Nat×Operand)=>Wm p.1:=by
   intro L
   induction L with
   |nil=>intro l hl;simp at hl;subst hl;exact⟨rfl,by simp⟩
   |cons p L ih=>
    intro l hl;rw[a3N]at hl
    cases hf:fs[p.1]? with
    |none=>simp[hf]at hl
    |some f=>
     cases hq:X7 P f.type with
     |none=>simp[hf,hq]at hl
     |some q=>
      cases hr:(L.mapM fun(p:Nat×Operand)=>do let f<-fs[p.1]?;let q<-X7 P f.type;pure (f.offset,q,p.2))with
      |none=>simp only[hf,hq,a1V,a5J]at hl hr;rw[hr]at hl;simp at hl
      |some l0=>
       simp only[hf,hq,a1V,a5J]at hl hr;rw[hr]at hl;simp at hl;subst hl;obtain⟨g1,g2⟩:=ih l0 (by simpa using hr);refine⟨by simp[g1],fun k=>?_⟩
       cases k with
       |zero=>simp[Wm,hf,hq]
       |succ k=>simpa using g2 k
  obtain⟨p1,p2⟩:=UN _ _ hl
  obtain⟨c',e1,e2,e3⟩:=a3D h Wm parts.toList l _ cs zv.cells p1 p2 (by rw[IC];simp) (fun j x hx=>by
   obtain⟨sz,e⟩:=qu _ _ _ _ hx;rw[e,SK]
   exact Ew _ _) hcs
  refine Wo h (v:= .agg c') (fun w=>?_) hk (.agg _ _ e2 e3)
  have hm:=a4D (P:=P) fs (fun f=>do pure (f.offset, <-sizeOf f.type)) (fun f=>(f.offset,(X7 P f.type).getD 0)) w (fun f hf=>by
   have:=Zt f hf
   cases hq:X7 P f.type with
   |none=>rw[hq]at this;cases this
   |some q=>simp[run_sizeOf w hq])
  have NF:(parts.map fun(i,x)=>(i,a.eval x)).toList=parts.toList.map fun p=>(p.1,a.eval p.2):=by simp
  simp only[execOp,Instr.build,Sem.run_bind,IB h1 h2,Result.andThen_ok,run_underlying w hu,hm,NF];have e1':Instr.fill (fun x=>(Array.map (fun f=>(f.offset,(X7 P f.type).getD 0)) fs)[x]?) zv.cells (parts.toList.map fun p=>(p.1,a.eval p.2))=some c':=e1;simp only[e1',Sem.run_pure,Result.andThen_ok]
 ·exact hk.elim
theorem a6D{t e:TypeId}{len q:Nat}{parts:Array (Nat×Operand)}{z:List AV}(hu:P.underlying t=some (.array len e))
 (hq:X7 P e=some q) (hz:Q6 P t=some z)
 (h:Z7 E n ψ s a w) (hk:ZP P d s K (.build z (parts.toList.map fun p=>(p.1*q,q,p.2)))):XY P E n ⟨dst, .build t parts,ty,pos,af,g⟩ a w K:=by
 simp only[ZP]at hk;obtain⟨i,zv,h1,h2,rfl⟩:=Fl hz;split at hk
 ·rename_i cs hcs
  obtain⟨c',e1,e2,e3⟩:=a3D h (fun i=>some (i*q,q)) parts.toList _ _ cs zv.cells (by simp[b8q]) (fun k=>by simp[b8q];cases parts[k]? <;>rfl) (by rw[IC];simp) (fun j x hx=>by
   obtain⟨sz,e⟩:=qu _ _ _ _ hx;rw[e,SK]
   exact Ew _ _) hcs
  refine Wo h (v:= .agg c') (fun w=>?_) hk (.agg _ _ e2 e3)
  have NF:(parts.map fun(i,x)=>(i,a.eval x)).toList=parts.toList.map fun p=>(p.1,a.eval p.2):=by simp
  simp only[execOp,Instr.build,Sem.run_bind,IB h1 h2,Result.andThen_ok,run_underlying w hu,run_sizeOf w hq,NF];simp only[e1,Sem.run_pure,Result.andThen_ok]
 ·exact hk.elim
theorem a7D(b o:Nat):∀(vs:List Value) (i:Nat) (w:World) (c:Array Value) (e:TypeId),w.heap[b]? =some (.cells c e (0,0))->(∀v∈vs,v.oneCell'=true)->o+i+vs.length<=c.size->
 ∃w',(storeCells ⟨b,o,none⟩ vs i).run P w= .ok () w'/\(∀j,j≠b->w'.heap[j]? =w.heap[j]?)/\w'.heap.size=w.heap.size/\(w'.os=w.os/\w'.tape=w.tape/\w'.output=w.output/\w.drawn<=w'.drawn)∧
  w'.heap[b]? =some (.cells (((vs.zipIdx i).foldl (fun cs (x,j)=>cs.setIfInBounds (o+j) x) c)) e (0,0)):=by
 intro vs
 induction vs with
 |nil=>intro i w c e hb _ _;exact⟨w,rfl,fun _ _=>rfl,rfl,⟨rfl,rfl,rfl,a8F _⟩,hb⟩
 |cons v vs ih=>
  intro i w c e hb hv hl;have hv1:=hv v (by simp)
  have ZV:o+i<c.size:=by simp at hl;omega
  have OU:w.cell? ⟨b,o+i,none⟩=some (c.getD (o+i) undef):=IA hb ZV
  have hfz:w.frozen? ⟨b,o+i,none⟩=false:=by simp[World.frozen?,hb]
  obtain⟨w',r1,r2,r3,r4,r5⟩:=ih (i+1) (w.setCell ⟨b,o+i,none⟩ v) (c.setIfInBounds (o+i) v) e (e9j w b (o+i) v hb) (fun x hx=>hv x (by simp[hx])) (by simp at hl⊢;omega);refine⟨w',?_,fun j hj=>(r2 j hj).trans (e8j w _ v j hj),by rw[r3];simp[World.setCell],r4,?_⟩
  ·simp only[storeCells,Sem.run_bind,Fk,run_store P w _ _ _ hv1,OU,hfz];exact r1
  ·simpa[d2u]using r5
theorem a8D{z:List AV}{vs:List Value}{A:Nat->Prop}{H:Hp}(hl:vs.length=z.length)(h:∀i x,z[i]? =some x->ZK A ψ H w x (vs.getD i undef))(ho:z.all AV.one=true):
 ∀v∈vs,v.oneCell'=true:=by
 intro v hv;obtain⟨i,hi,rfl⟩:=d8m hv;have hz:z[i]? =some z[i]:=a3I (by omega);have:=h i _ hz;rw[show vs.getD i undef=vs[i]from by simp[a7V,hi]]at this;exact this.one (a0E.1 ho _ (a8y hz))
theorem a9D(h:Z7 E n ψ s a w){cs:List AV}{vs:List Value}(hl:vs.length=cs.length)(hc:∀i x,cs[i]? =some x->ZK (Im E ψ s.hp) ψ s.hp w x (vs.getD i undef))
 {l:List IV} (hm:cs.mapM AV.iv?=some l):l.length=cs.length/\∀i x,l[i]? =some x->YB (Im E ψ s.hp) w x (vs.getD i undef):=by
 induction cs generalizing vs l with
 |nil=>simp at hm;subst hm;exact⟨rfl,by simp⟩
 |cons x cs ih=>
  cases vs with
  |nil=>simp at hl
  |cons v vs=>
   simp only[a3N,a1V]at hm
   cases hx:x.iv? with
   |none=>rw[hx]at hm;cases hm
   |some y=>
    rw[hx]at hm
    cases hr:cs.mapM AV.iv? with
    |none=>rw[hr]at hm;cases hm
    |some l0=>
     rw[hr]at hm;simp at hm;subst hm;obtain⟨g1,g2⟩:=ih (by simpa using hl) (fun i z hz=>by simpa using hc (i+1) z (by simpa using hz)) hr;refine⟨by simp[g1],fun i z hz=>?_⟩
     cases i with
     |zero=>
      simp at hz;subst hz;have h0:=hc 0 x rfl;simp only[c0F]at h0⊢
      cases x with
      |iv q=>simp[AV.iv?]at hx;subst hx;cases h0 with|iv _ _ h=>exact h
      |nil sz=>simp[AV.iv?]at hx;subst hx;rw[Eu h0];exact .Wj _
      | _=>simp[AV.iv?]at hx
     |succ i=>simp only[a2I]at hz;simpa using g2 i z hz
end
section
variable{P:Program}{E:En}{n:Nat}{ψ:Pl}{s:St}{a:Act}{w:World}
variable{dst:Option Nat}{ty:TypeId}{pos:String}{af:Array Edge}{g:Option (Nat×Bool)}{r:Wu}{d:Nat}{K:St->AV->Prop}
theorem Z7.Y9(h:Z7 E n ψ s a w)(xs:List AV):Z7 E n ψ (s.Y9 xs) a w:=by
 unfold St.Y9;generalize xs.flatMap AV.ids=l
 induction l generalizing s with
 |nil=>exact h
 |cons i l ih=>
  simp only[b0k];split
  ·rename_i hi;exact ih (h.drop hi)
  ·exact ih h
theorem e2h(
 h:Z7 E n ψ s a w) (sz:Nat):∀(L:List (Nat×Operand)) (i N:Nat) (c:Array Value) (xs:List (List IV)),
 L.map (·.1)=List.range' i L.length->c.size=N*sz->i+L.length<=N->RQ s sz L=some xs->
 ∃c',Instr.fill (fun k=>some (k*sz,sz)) c (L.map fun p=>(p.1,a.eval p.2))=some c'/\c'.size=c.size/\(∀q,q<i*sz->c'.getD q undef=c.getD q undef)∧
  xs.length=L.length/\(∀x∈xs,x.length=sz)/\∀k j x,at2 xs k j=some x->YB (Im E ψ s.hp) w x (c'.getD ((i+k)*sz+j) undef):=by
 intro L
 induction L with
 |nil=>
  intro i N c xs _ hc _ hl;simp only[RQ,a5y]at hl;subst hl;exact⟨c,rfl,rfl,fun _ _=>rfl,rfl,by simp,by simp[at2]⟩
 |cons p L ih=>
  intro i N c xs hi hc hN hl;obtain⟨k,x⟩:=p;simp only[a0G,a3O,List.range'_succ,a4S]at hi;obtain⟨rfl,hi⟩:=hi;simp only[RQ]at hl;split at hl
  ·rename_i q hq;split at hl
   ·rename_i hqs
    cases hcs:(s.ev x).cellsOf with
    |none=>rw[hcs]at hq;cases hq
    |some cs=>
     rw[hcs]at hq;simp only[a5J]at hq
     cases hr:RQ s sz L with
     |none=>rw[hr]at hl;cases hl
     |some xs0=>
      rw[hr]at hl;simp only[a4G,a5y]at hl;subst hl;obtain⟨g1,g2⟩:=qH (h.ev x) hcs
      have hlen:(a.eval x).cells.toList.length=cs.length:=by simpa using g1
      obtain⟨v1,v2⟩:=a9D h hlen (fun j y hy=>by rw[SK];exact g2 j y hy) hq;simp only[a3O]at hN;have hm:(k+1)*sz<=N*sz:=a5E sz (by omega)
      have e2:(k+1)*sz=k*sz+sz:=by rw[a8M];omega
      have Yd:(a.eval x).cells.size=sz:=by omega
      obtain⟨c',f1,f2,f3,f4,f5,f6⟩:=ih (k+1) N (U5 c (k*sz) (a.eval x).cells.toList) xs0 hi (by rw[IN];exact hc) (by omega) hr;refine⟨c',?_,by rw[f2,IN],fun j hj=>?_,by simp[f4],?_,?_⟩
      ·simp only[a0G,Instr.fill];rw[if_neg (by simp;omega)];rw[<-f1]
       congr 1
       unfold U5;rw[<-d7l];simp[d1f]
      ·rw[f3 j (by omega),Fq _ _ _ _ (by omega),if_neg (by omega)]
      ·intro y hy
       rcases List.mem_cons.1 hy with rfl|hy
       ·exact hqs
       ·exact f5 y hy
      ·intro i' j y hy
       cases i' with
       |zero=>
        simp only[at2,a9E,a5J]at hy
        have hj:j<sz:=by rw[<-hqs];exact(a7y.1 hy).1
        rw[b1P,f3 _ (by omega),Fq _ _ _ _ (by omega),if_pos ⟨by omega,by simp;omega⟩];rw[show k*sz+j-k*sz=j from by omega];exact v2 j y hy
       |succ i'=>
        have:=f6 i' j y (by simpa[at2]using hy);rw[show k+(i'+1)=k+1+i' from by omega];exact this
   ·cases hl
  ·cases hl
theorem e3h{o:Oper}{sz:Nat}{xs:List (List IV)}{c:Array Value}{t:TypeId}{cap:Nat}(hd:d<1000)(h:Z7 E n ψ s a w)(Y6:look s.hp d=none)
 (hs:∀x∈xs,x.length=sz) (hlen:xs.length*sz<=c.size) (VA:xs.length<=cap) (FF:cap*sz<=c.size) (hcm:cap<2^63)
 (hc:∀i j x,at2 xs i j=some x->YB (Im E ψ s.hp) w x (c.getD (i*sz+j) undef)) {w1:World} (hx:Ext w w1)
 (hr:(execOp a.eval o).run P w= .ok (.value (.slice (some ⟨w1.heap.size,0,none⟩) xs.length cap)) (w1.alloc (.cells c t)))
 (hk:K (s.add d (.list sz xs)) (.sl d sz 0 xs.length)):X6 P E n o a w K:=by
 have hx2:Ext w (w1.alloc (.cells c t)):=hx.trans (Ext.alloc _ _)
 have h2:=h.new (o:= .list sz xs) (p:=some (w1.heap.size,(0,c.size))) hd Y6 hx2 (fun b k e=>by cases e;exact hx.size)
  ⟨hs, .inr ⟨w1.heap.size,(0,c.size),c,t,by simp[XF],qq _ _,by simp,hlen,fun i j x Vw=>by rw[b4s];exact(hc i j x Vw).mono (fun b hb hi=>⟨hb,hi⟩) (fun b hb _=>hx2.block b hb)⟩⟩
 refine SH hr hk h2 (.sl d sz 0 xs.length w1.heap.size (0,c.size) cap _ (.list sz xs) xs.length (by simp[WX]) rfl (by omega) (by simp[XF]) (fun _=>by simp) VA (by simpa using FF) hcm)
theorem e4h{t e:TypeId}{len sz:Nat}{parts:Array (Nat×Operand)}(hu:P.underlying t=some (.slice e))(Yd:X7 P e=some sz)(hp1:parts.size=len)
 (NF:parts.toList.map (·.1)=a0I len) (hp3:0<sz) (hp4:len*sz<=2^24) {z:List AV} (hz:Q6 P e=some z) (hd:d<1000) (h:Z7 E n ψ s a w)
 (hk:ZP P d s K (.lit sz len parts.toList)):X6 P E n ⟨dst, .buildSlice t len parts,ty,pos,af,g⟩ a w K:=by
 simp only[ZP]at hk;split at hk
 ·rename_i xs JX;have h1:=(h.Y9 (parts.toList.map fun p=>s.ev p.2)).drop (id:=d) hd;obtain⟨i,zv,z1,z2,_⟩:=Fl hz
  have hL:parts.toList.length=len:=by simpa using hp1
  let zero:Array Value:=if len*sz=0 then#[]else zv.cells
  let c0:Array Value:=(d7Q (len*sz)).map (zero[· %zero.size]!)
  obtain⟨c',f1,f2,f3,f4,f5,f6⟩:=e2h h1 sz parts.toList 0 len c0 xs (by rw[NF,hL,List.range_eq_range']) (by simp[c0]) (by omega) JX
  have hx:xs.length=len:=by omega
  have hcs:c'.size=len*sz:=by rw[f2];simp[c0]
  have hp:(parts.map fun(i,x)=>(i,a.eval x)).toList=parts.toList.map fun p=>(p.1,a.eval p.2):=by simp
  have hz0:(if len*sz=0 then(pure #[]:Sem (Array Value))else do pure (<-zeroValue e).cells).run P w= .ok zero w:=by
   by_cases h0:len*sz=0
   ·simp[zero,h0]
   ·simp only[zero,if_neg h0,Sem.run_bind,IB z1 z2,Result.andThen_ok,Sem.run_pure]
  refine e3h (c:=c') (t:=e) (cap:=len) hd h1 (JY _ _) f5 (by rw[hx,hcs];exact a8F _) (by omega) (by omega) (by have h9:len*1<=len*sz:=Nat.mul_le_mul_left _ hp3;omega) (fun i j x Xo=>by simpa using f6 i j x Xo) (Ext.refl w) ?_ (by rw[hx];exact hk);rw[hx]
  have f1':Instr.fill (fun i=>some (i*sz,sz)) ((d7Q (len*sz)).map (zero[· %zero.size]!)) (parts.toList.map fun p=>(p.1,a.eval p.2))=some c':=f1;simp only[execOp,Instr.buildSlice,Sem.run_bind,run_underlying w hu,Result.andThen_ok,run_sizeOf w Yd,if_neg (show ¬len*sz>2^24 by omega),hp]
  by_cases h0:len*sz=0
  ·have e0:zero= #[]:=if_pos h0;rw[e0]at f1';simp only[if_pos h0,Sem.run_bind,Sem.run_pure,Result.andThen_ok,f1',newRow,run_newObj];rfl
  ·have e0:zero=zv.cells:=if_neg h0;rw[e0]at f1';simp only[if_neg h0,Sem.run_bind,IB z1 z2,Sem.run_pure,Result.andThen_ok,f1',newRow,run_newObj];rfl
 ·exact hk.elim
end
section
variable{P:Program}{E:En}{n:Nat}{ψ:Pl}{s:St}{a:Act}{w:World}
variable{dst:Option Nat}{ty:TypeId}{pos:String}{af:Array Edge}{g:Option (Nat×Bool)}{r:Wu}{d:Nat}{K:St->AV->Prop}
theorem Z7.renew(h:Z7 E n ψ s a w){id:Nat}(VF:id<1000){o o':Ob}(hold:look s.hp id=some o)(SR:o'.org id=o.org id){p:Option (Nat×(Nat×Nat))}{w':World}
 (hw:∀b,b<w.heap.size->(∀k,ψ id≠some (b,k))->w'.heap[b]? =w.heap[b]?) (Yd:w.heap.size<=w'.heap.size) (hs:w'.os=w.os/\w'.tape=w.tape/\w'.output=w.output/\w.drawn<=w'.drawn)
 (hp:∀b k,p=some (b,k)->w.heap.size<=b\/∃k0,ψ id=some (b,k0))
 (ho:Xa (fun b=>b<w.heap.size/\Im E ψ s.hp b) (XF ψ id p) ((s.lone id).add id o').hp w' id o'):
 Z7 E n (XF ψ id p) ((s.lone id).add id o') a w':=by
 have ZV:∀{k o b},look s.hp k=some o->Z2 ψ k b->b<w.heap.size:=fun hk hb=>h.lt hk hb
 have Xw:∀k,look ((s.lone id).add id o').hp k=if id=k then some o' else(look s.hp k).map (Ob.ZQ (AV.kc (· ==id))):=by
  intro k;rw[WX,e4j]
 have back:∀{k ob},look ((s.lone id).add id o').hp k=some ob->(id=k/\ob=o')\/(id≠k/\∃o1,look s.hp k=some o1/\ob=o1.ZQ (AV.kc (· ==id))):=by
  intro k ob hk;rw[Xw]at hk
  by_cases e:id=k
  ·rw[if_pos e]at hk;exact .inl ⟨e,by simpa using hk.symm⟩
  ·rw[if_neg e]at hk
   cases ho:look s.hp k with
   |none=>rw[ho]at hk;cases hk
   |some o1=>rw[ho]at hk;exact .inr ⟨e,o1,rfl,by simpa using hk.symm⟩
 have hpo:∀{b},Z2 (XF ψ id p) id b->w.heap.size<=b\/Z2 ψ id b:=by
  intro b hb;obtain⟨q,hb⟩:=e6j _ _ hb
  rcases hp b q hb with h4|⟨k0,h4⟩
  ·exact .inl h4
  ·exact .inr (.inl ⟨k0,h4⟩)
 have hI:∀b,b<w.heap.size->Im E ψ s.hp b->Im E (XF ψ id p) ((s.lone id).add id o').hp b:=by
  rintro b hb ⟨h1,h2⟩;refine⟨h1,?_⟩;rintro⟨k,ob,hk,hq⟩
  rcases back hk with⟨rfl,_⟩|⟨ZS,o1,h3,_⟩
  ·rcases hpo hq with h4|h4
   ·omega
   ·exact h2 ⟨id,o,hold,h4⟩
  ·exact h2 ⟨k,o1,h3,(JF p (Ne.symm ZS)).1 hq⟩
 have S4:∀b,b<w.heap.size->Im E ψ s.hp b->w'.heap[b]? =w.heap[b]? :=fun b hb hi=>hw b hb fun k e=>hi.2 ⟨id,o,hold, .inl ⟨k,e⟩⟩
 have hk:c0I (· ==id) ψ (XF ψ id p) s.hp ((s.lone id).add id o').hp:=by
  intro k ob hk Qf
  have ZS:id≠k:=by intro e;simp[e]at hk
  refine⟨⟨_,by rw[Xw,if_neg ZS,Qf];rfl,Ob.SA _ ob⟩,by simp[XF,Ne.symm ZS]⟩
 have hf:=c1I (p:=(· ==id)) hI S4 hk;refine {size:=h.size,defers:=h.defers.mono hI S4,frame:=fun x=>?_,YH:=?_,inj:=?_,own:=?_,Y0:=?_,par:=?_,old:=?_,grow:=?_,same:=?_}
 ·have e:((s.lone id).add id o').get x=(s.get x).ZQ (AV.kc (· ==id)):=St.T2 _ rfl x;rw[e];exact(h.frame x).ZQ hf (fun _=>rfl) (fun _=>rfl)
 ·intro k ob Qf
  rcases back Qf with⟨rfl,rfl⟩|⟨ZS,o1,h3,rfl⟩
  ·exact ho.mono (fun b _ hb=>hI b hb.1 hb.2) (fun _ _ _=>rfl) (Vt.refl _ _) ⟨rfl,fun _ h=>h⟩ (fun _ _=>rfl)
  ·have Wn:XF ψ id p k=ψ k:=by simp[XF,Ne.symm ZS]
   have hblk:∀b,Z2 ψ k b->w'.heap[b]? =w.heap[b]? :=fun b hb=>hw b (ZV h3 hb) fun q' e=>ZS (h.inj id k o o1 b hold h3 (.inl ⟨q',e⟩) hb)
   cases o1 with
   |box cs=>
    obtain⟨b,c,e,g1,g2,g3,g4⟩:=h.YH k _ h3;refine⟨b,c,e,by rw[Wn];exact g1,by rw[hblk b (.inl ⟨_,g1⟩)];exact g2,by simpa using g3,fun i x hx=>?_⟩
    rw[a0C]at hx
    cases Wx:cs[i]? with
    |none=>rw[Wx]at hx;cases hx
    |some c0=>
     rw[Wx]at hx;cases hx;have h6:=g4 i c0 Wx
     cases c0 with
     |agg l=>exact .junk _
     |Zp l=>exact .junk _
     | _=>exact hf _ _ h6 (by simp) (by simp)
   |gh Z vs cs=>
    obtain⟨g1,g2,g3,g4⟩:=h.YH k _ h3;refine⟨by rw[Wn];exact g1,g2.mono hI (fun b hb=>⟨Ne.symm ZS,hb⟩) S4 (fun b hb=>hblk b (.inr hb)),by simpa using g3,fun i x hx=>?_⟩
    rw[a0C]at hx
    cases Wx:cs[i]? with
    |none=>rw[Wx]at hx;cases hx
    |some c0=>rw[Wx]at hx;cases hx;exact(g4 i c0 Wx).ZQ hf (fun _=>rfl) (fun _=>rfl)
   | _=>exact(h.YH k _ h3).move (by constructor<;>(intros;intro e;cases e)) hI S4 ⟨Wn,fun b hb=>⟨Ne.symm ZS,hb⟩⟩ hblk
 ·intro i i' o1 o2 b hi VZ hb XB
  rcases back hi with⟨rfl,_⟩|⟨e1,r1,g1,_⟩<;>rcases back VZ with⟨e2,_⟩|⟨e2,r2,g2,_⟩
  ·exact e2
  ·have XB:=(JF p (Ne.symm e2)).1 XB
   rcases hpo hb with h4|h4
   ·have:=ZV g2 XB;omega
   ·exact h.inj id i' o r2 b hold g2 h4 XB
  ·subst e2;have hb:=(JF p (Ne.symm e1)).1 hb
   rcases hpo XB with h4|h4
   ·have:=ZV g1 hb;omega
   ·exact h.inj i id r1 o b g1 hold hb h4
  ·exact h.inj i i' r1 r2 b g1 g2 ((JF p (Ne.symm e1)).1 hb) ((JF p (Ne.symm e2)).1 XB)
 ·intro i o1 b hi hb
  rcases back hi with⟨rfl,rfl⟩|⟨e1,r1,g1,rfl⟩
  ·rcases hpo hb with h4|h4
   ·exact .inr (.inr (a9L h.grow h4))
   ·rw[SR];exact h.own id o b hold h4
  ·rw[Ob.T1];exact h.own i r1 b g1 ((JF p (Ne.symm e1)).1 hb)
 ·intro i o1 b hi hb
  rcases back hi with⟨rfl,_⟩|⟨e1,r1,g1,rfl⟩
  ·exact absurd rfl hb.1
  ·obtain⟨q1,q2,q3⟩:=h.Y0 i r1 b g1 hb.2;rw[Ob.VU];exact⟨q1,a4N q2 Yd,fun k=>by simp only[XF,if_neg hb.1];exact q3 k⟩
 ·intro i hi
  have:i≠id:=by have:=E.big i hi;omega
  simp only[XF,if_neg this];exact h.par i hi
 ·intro b hb hm;rw[hw b (a4N hb h.grow) ?_]
  ·exact h.old b hb hm
  ·intro k e
   rcases h.own id o b hold (.inl ⟨k,e⟩)with⟨h1,h2⟩|h1
   ·exact hm (.inl ⟨_,h1,h2⟩)
   ·exact E.no hb hm h1
 ·exact a9L h.grow Yd
 ·exact⟨hs.1.trans h.same.1,hs.2.1.trans h.same.2.1,hs.2.2.1.trans h.same.2.2.1,a9L h.same.2.2.2 hs.2.2.2⟩
theorem b8A{w2:World}(sz k:Nat)(b o cap:Nat)(vs:List Value)(hl:vs.length=k*sz)(h:∀q,q<k*sz->w2.cell? ⟨b,o+q,none⟩=vs[q]?)(m:Nat):
 (Builtin.firstCells sz k (.slice (some ⟨b,o,none⟩) m cap)).run P w2= .ok vs.toArray w2:=by
 simp only[Builtin.firstCells, <-hl];exact e7g w2 b o vs (fun j hj=>h j (by omega))
theorem b9A{xs:List (List IV)}{sz:Nat}(hs:∀x∈xs,x.length=sz){q:Nat}(hq:q<xs.length*sz):∃x,at2 xs (q/sz) (q%sz)=some x:=by
 have Yy:0<sz:=by
  rcases b5j sz with h|h; ·rw[h]at hq;omega
  ·exact h
 have h1:q/sz<xs.length:=Nat.div_lt_of_lt_mul (by rw[c5w];exact hq);have hr:xs[q/sz]? =some xs[q/sz]:=a3I h1
 have h2:q%sz<xs[q/sz].length:=by rw[hs _ (d5t h1)];exact d6S _ Yy
 exact⟨_,qE hr (a3I h2)⟩
theorem b0B(
 h:Z7 E n ψ s a w) {x:AV} {v:Value} (hx:ZK (Im E ψ s.hp) ψ s.hp w x v) {sz YK:Nat} {ys:List (List IV)} (he:s.elems x=some (YK,ys)) (hz:YK=sz\/ys=[]):
 ∃vs:List Value,vs.length=ys.length*sz/\(∀w2:World,w2.heap=w.heap->(Builtin.firstCells sz ys.length v).run P w2= .ok vs.toArray w2)/\(∀y∈ys,y.length=sz)∧
  (∀i j y,at2 ys i j=some y->YB (Im E ψ s.hp) w y (vs.getD (i*sz+j) undef))/\(∀u∈vs,u.oneCell'=true)/\∃ad cap,v= .slice ad ys.length cap:=by
 have build:∀(b o cap m:Nat) (f:Nat->Value),v= .slice (some ⟨b,o,none⟩) m cap->m=ys.length->(∀y∈ys,y.length=sz)->(∀q,q<ys.length*sz->w.cell? ⟨b,o+q,none⟩=some (f q))->
  (∀i j y,at2 ys i j=some y->YB (Im E ψ s.hp) w y (f (i*sz+j)))->
  ∃vs:List Value,vs.length=ys.length*sz/\(∀w2:World,w2.heap=w.heap->(Builtin.firstCells sz ys.length v).run P w2= .ok vs.toArray w2)/\(∀y∈ys,y.length=sz)∧
  (∀i j y,at2 ys i j=some y->YB (Im E ψ s.hp) w y (vs.getD (i*sz+j) undef))/\(∀u∈vs,u.oneCell'=true)/\∃ad cap,v= .slice ad ys.length cap:=by
  intro b o cap m f hv hm hs hc hr;subst hm
  have ZV:∀{i j y},at2 ys i j=some y->i*sz+j<ys.length*sz:=by
   intro i j y hy;obtain⟨r,h1,h2⟩:=JO hy;have h3:=(a7y.1 h1).1
   have h4:j<sz:=by rw[<-hs r (a8y h1)];exact(a7y.1 h2).1
   have h5:(i+1)*sz<=ys.length*sz:=a5E sz (by omega)
   have h6:(i+1)*sz=i*sz+sz:=by rw[a8M];omega
   omega
  refine⟨(a0I (ys.length*sz)).map f,by simp,fun w2 E4=>?_,hs,fun i j y hy=>?_,fun u hu=>?_,_,_,hv⟩
  ·rw[hv];refine b8A sz ys.length b o cap _ (by simp) (fun q hq=>?_) _
   have:w2.cell? ⟨b,o+q,none⟩=w.cell? ⟨b,o+q,none⟩:=by simp only[World.cell?,E4]
   rw[this,hc q hq];simp[hq]
  ·rw[show((a0I (ys.length*sz)).map f).getD (i*sz+j) undef=f (i*sz+j)from by simp[a7V,ZV hy]];exact hr i j y hy
  ·obtain⟨q,hq,rfl⟩:=a3E.1 hu
   have hq:q<ys.length*sz:=by simpa using hq
   obtain⟨y,hy⟩:=b9A hs hq;have:=hr _ _ _ hy;rw[c5w,d4C]at this;exact this.one
 have empty:ys=[]->(∃ad cap,v= .slice ad 0 cap)->∃vs:List Value,vs.length=ys.length*sz/\(∀w2:World,w2.heap=w.heap->(Builtin.firstCells sz ys.length v).run P w2= .ok vs.toArray w2)/\(∀y∈ys,y.length=sz)∧
  (∀i j y,at2 ys i j=some y->YB (Im E ψ s.hp) w y (vs.getD (i*sz+j) undef))/\(∀u∈vs,u.oneCell'=true)/\∃ad cap,v= .slice ad ys.length cap:=by
  rintro rfl ⟨ad,cap,rfl⟩;refine⟨[],by simp,fun w2 _=>?_,by simp,by simp[at2],by simp,ad,cap,rfl⟩
  cases ad<;>simp[Builtin.firstCells,loadCells,loadCellsFrom]
 unfold St.elems at he;split at he
 ·rename_i ZB xs;cases he
  rcases b7T hx with⟨rfl,hv⟩|⟨b,off,cap,ad,vs,g1,g2,g3,g4,g5,hv⟩
  ·exact empty rfl ⟨none,0,hv⟩
  ·by_cases ZS:ys=[]
   ·exact empty ZS ⟨some ad,cap,by rw[hv,ZS];rfl⟩
   ·have IL:YK=sz:=hz.resolve_right ZS;subst IL;have g1:=g1 ZS;subst g1;refine build b off cap ys.length (fun q=>vs (q/YK) (q%YK)) hv rfl g2 (fun q hq=>?_) (fun i j y hy=>?_)
    ·obtain⟨y,hy⟩:=b9A g2 hq;have:=(g4 _ _ _ hy).2;rw[c5w,d4C]at this;exact this
    ·have hj:j<YK:=by
      obtain⟨r,h1,h2⟩:=JO hy;rw[<-g2 r (a8y h1)];exact(a7y.1 h2).1
     have e1:(i*YK+j)/YK=i:=by rw[c5w,Nat.mul_add_div (by omega),Nat.div_eq_of_lt hj,b1P]
     have e2:(i*YK+j)%YK=j:=by rw[c5w,Nat.mul_add_mod,Nat.mod_eq_of_lt hj]
     simp only[e1,e2];exact g5 i j y hy
 ·rename_i ZB;cases he;exact empty rfl ⟨none,0,Eu hx⟩
 ·rename_i id ZB lo m;split at he
  ·rename_i o ho;split at he
   ·rename_i z0 xs Xt;cases he;obtain⟨o',xm,q1,SB,q2,Ya⟩:=Jg hx;rw[ho]at q1;cases q1;have hd:=c3U Xt;rw[SB]at hd;simp only[a5y,a6J]at hd;obtain⟨hd1,sg⟩:=hd;subst hd1;subst sg
    rcases Ya with⟨p1,rfl,rfl,hv⟩|⟨b,k,cap,ad,p1,p2,p3,p4,hv⟩
    ·exact empty (by simp) ⟨none,0,hv⟩
    ·have hlen:((xs.drop lo).take m).length=m:=by simp;omega
     by_cases hm:m=0
     ·subst hm;exact empty (by simp) ⟨some ad,cap,hv⟩
     ·have IL:=hz.resolve_right (by intro e;rw[e]at hlen;simp at hlen;omega)
      subst IL;have p2:=p2 (by omega);subst p2;obtain⟨h0,h5⟩:=c1U Xt (h.YH id _ ho)
      rcases h5 with⟨h1,_⟩|⟨b',k',c,e,h1,h2,Te,h3,h4⟩
      ·rw[h1]at p1;cases p1
      rw[h1]at p1;cases p1;refine build b (k.1+lo*YK) cap m (fun q=>c.getD (k.1+(lo*YK+q)) undef) hv hlen.symm (fun y hy=>h0 y (b3M (b4j hy))) (fun q hq=>?_) (fun i j y hy=>?_)
      ·rw[hlen]at hq;have Uu:(lo+m)*YK<=xs.length*YK:=a5E YK q2;have:(lo+m)*YK=lo*YK+m*YK:=a8M _ _ _;rw[b3P];exact IA h2 (by omega)
      ·have:=h4 _ _ _ (d0C _ _ _ _ _ _ hy);rw[a8M,b3P]at this;exact this
   ·cases he
  ·cases he
 ·cases he
end
theorem d9S(need c:Nat)(h:c<need)(h2:256<=c):∀r,Builtin.growBy need r c<=2*need:=by
 intro r
 induction r generalizing c with
 |zero=>simp[Builtin.growBy];omega
 |succ r ih=>
  unfold Builtin.growBy;split
  ·omega
  ·by_cases h3:c+(c+768)/4<need
   ·exact ih _ h3 (by omega)
   ·have:Builtin.growBy need r (c+(c+768)/4)=c+(c+768)/4:=by
     cases r with
     |zero=>rfl
     |succ r=>unfold Builtin.growBy;rw[if_pos (by omega)]
    rw[this];omega
theorem d0T(need old:Nat)(h:old<need):Builtin.nextslicecap need old<=2*need:=by
 unfold Builtin.nextslicecap;split
 ·omega
 ·split
  ·omega
  ·exact d9S need old h (by omega) 4
section
variable{P:Program}{E:En}{n:Nat}{ψ:Pl}{s:St}{a:Act}{w:World}
variable{dst:Option Nat}{ty:TypeId}{pos:String}{af:Array Edge}{g:Option (Nat×Bool)}{r:Wu}{d:Nat}{K:St->AV->Prop}
theorem d1T{x y:Operand}{ts:Array TypeId}{v:Value}{w':World}(hv:(Builtin.append_ ts ty #[a.eval x,a.eval y]).run P w= .ok v w'):
 (execOp a.eval ⟨dst, .call ⟨.builtin .append, #[x,y],ts⟩,ty,pos,af,g⟩).run P w= .ok (.value v) w':=by
 simp only[execOp,resolve,Sem.run_bind,Sem.run_pure,Result.andThen_ok,invoke,builtin];simp[hv]
theorem d2T{t u e:TypeId}{sz m cap cy ny:Nat}{base ady:Option Addr}{vs:List Value}{ts:Array TypeId}(h0:ts[0]? =some t)(h1:ts[1]? =some u)
 (hu:P.underlying t=some (.slice e)) (Ln:∃e2,P.underlying u=some (.slice e2)) (Yd:X7 P e=some sz) {w w':World} (Wd:m+ny<=cap)
 (OS:(Builtin.firstCells sz ny (.slice ady ny cy)).run P w= .ok vs.toArray w)
 (YL:∀ad,base=some ad->(storeCells (ad.add (m*sz)) vs).run P w= .ok () w') (g4b:base=none->w'=w):
 (Builtin.append_ ts ty #[.slice base m cap, .slice ady ny cy]).run P w= .ok (.slice base (m+ny) cap) w':=by
 obtain⟨e2,Ln⟩:=Ln;unfold Builtin.append_
 simp only[h0,c8E,a9E,a2I,Sem.run_bind,run_underlying w hu,run_underlying w Ln,run_sizeOf w Yd,Result.andThen_ok,h1,Sem.run_pure,
  a5M,if_false,Builtin.lenOf,if_pos Wd,d4O,if_true,OS]
 cases base with
 |none=>rw[g4b rfl];rfl
 |some ad=>simp only[Sem.run_bind,YL ad rfl,Result.andThen_ok,Sem.run_pure]
theorem d3T{t u e:TypeId}{sz m cap cy ny:Nat}{base ady:Option Addr}{vs us:List Value}{ts:Array TypeId}{i:TypeInfo}{zv:Value}(h0:ts[0]? =some t)(h1:ts[1]? =some u)
 (hu:P.underlying t=some (.slice e)) (Ln:∃e2,P.underlying u=some (.slice e2)) (hi:P.info? e=some i) (hiz:i.zero=some zv) (Yd:i.size=sz) {w:World} (Wd:¬m+ny<=cap)
 (UA:m+ny<2^62) (hby:(m+ny)*i.bytes<=2^47)
 (OS:∀w2:World,w2.heap=w.heap->(Builtin.firstCells sz ny (.slice ady ny cy)).run P w2= .ok vs.toArray w2)
 (e1S:∀w2:World,w2.heap=w.heap->(Builtin.firstCells sz m (.slice base m cap)).run P w2= .ok us.toArray w2):
 ∃YW rest,(m+ny<=YW/\YW<2^63)/\rest.size=(YW-(m+ny))*zv.cells.size∧
  (Builtin.append_ ts ty #[.slice base m cap, .slice ady ny cy]).run P w= .ok (.slice (some ⟨w.heap.size,0,none⟩) (m+ny) YW) (w.drew.alloc (.cells (us.toArray++vs.toArray++rest) e)):=by
 obtain⟨e2,Ln⟩:=Ln
 have g5b:X7 P e=some sz:=by simp[X7,hi,Yd]
 let YW:=(Question.appendCap (m+ny) cap e).cut (w.tape w.drawn (.appendCap (m+ny) cap e))
 have VA:m+ny<=YW:=by simp only[YW,Question.cut];omega
 have FF:YW<2^63:=by
  simp only[YW,Question.cut];have:=d6S (w.tape w.drawn (.appendCap (m+ny) cap e)) (show 2^63-(m+ny)>0 by omega);omega
 have Zy:¬(Builtin.nextslicecap (m+ny) cap*i.bytes>2^48):=by
  have:=d0T (m+ny) cap (by omega);have:=a5E i.bytes this;rw[Nat.mul_assoc]at this;omega
 have iU:∀w2:World,(typeInfo e).run P w2= .ok i w2:=fun w2=>by simp[typeInfo,hi]
 have f9s:¬(((m+ny:Nat):Int)>IntKind.i64.max/\(false=true\/i.bytes=0)):=by
  have:IntKind.i64.max=2^63-1:=rfl;rw[this];omega
 refine⟨YW,Builtin.zeroCells zv.cells (YW-(m+ny)),⟨VA,FF⟩,by simp[Builtin.zeroCells],?_⟩;unfold Builtin.append_
 simp only[h0,c8E,a9E,a2I,Sem.run_bind,run_underlying w hu,run_underlying w Ln,run_sizeOf w g5b,Result.andThen_ok,h1,Sem.run_pure,
  a5M,if_false,Builtin.lenOf,if_neg Wd,iU,IB hi hiz]
 rw[if_neg (by simpa using f9s)];simp only[Sem.run_bind,iU,Result.andThen_ok];rw[if_neg Zy];simp only[Sem.run_bind,run_choose,Question.forced,a5M,if_false,Result.andThen_ok,run_askRoom,iU,d4O,if_true,World.drew_eq];rw[e1S w.drew rfl];simp only[Result.andThen_ok];rw[OS w.drew rfl]
 simp only[Result.andThen_ok,IB hi hiz,newRow,Sem.run_bind,run_newObj,Sem.run_pure];rfl
theorem d4T{x y:Operand}{ts:Array TypeId}{ty:TypeId}(hc:comp P ⟨dst, .call ⟨.builtin .append, #[x,y],ts⟩,ty,pos,af,g⟩=some r):
 ∃t u e e2 i zv,ts[0]? =some t/\ts[1]? =some u/\P.underlying t=some (.slice e)/\P.underlying u=some (.slice e2)/\P.info? e=some i/\i.zero=some zv/\zv.cells.size=i.size/\r= .app i.size i.bytes x y:=by
 simp only[comp]at hc
 have ht:ts=ts.toList.toArray:=by simp
 cases hl:ts.toList with
 |nil=>rw[hl]at hc;cases hc
 |cons t l=>
  cases l with
  |nil=>rw[hl]at hc;cases hc
  |cons u l=>
   cases l with
   |cons=>rw[hl]at hc;cases hc
   |nil=>
    rw[hl]at hc ht;simp only at hc;split at hc
    ·rename_i e e2 h1 h2
     cases hi:P.info? e with
     |none=>rw[hi]at hc;cases hc
     |some i=>
      rw[hi]at hc;simp only[a5J]at hc
      cases hz:i.zero with
      |none=>rw[hz]at hc;cases hc
      |some zv=>
       rw[hz]at hc;simp only[a5J]at hc;split at hc
       ·rename_i hs;exact⟨t,u,e,e2,i,zv,by rw[ht];rfl,by rw[ht];rfl,h1,h2,hi,hz,hs,by simpa using hc.symm⟩
       ·cases hc
    ·cases hc
theorem d5T(us vs:List Value)(rest:Array Value)(q:Nat):(us.toArray++vs.toArray++rest).getD q undef=if q<us.length then us.getD q undef else if q<us.length+vs.length then vs.getD (q-us.length) undef else rest.getD (q-(us.length+vs.length)) undef:=by
 simp only[a4E,a7V]
 by_cases h1:q<us.length
 ·rw[if_pos h1,c9p (by simp;omega),c9p (by simpa using h1)];simp
 ·rw[if_neg h1]
  by_cases h2:q<us.length+vs.length
  ·rw[if_pos h2,c9p (by simp;omega),c2Q (by simp;omega)];simp
  ·rw[if_neg h2,c2Q (by simp;omega)];simp
theorem d6T{xs ys:List (List IV)}{i j:Nat}{x:IV}(h:at2 (xs++ys) i j=some x):(i<xs.length/\at2 xs i j=some x)\/(xs.length<=i/\at2 ys (i-xs.length) j=some x):=by
 by_cases h1:i<xs.length
 ·left;refine⟨h1,?_⟩;simpa[at2,a1N h1]using h
 ·right;refine⟨by omega,?_⟩;simpa[at2,a5V (by omega:xs.length<=i)]using h
theorem qF{xs:List (List IV)}{sz:Nat}(hs:∀x∈xs,x.length=sz){i j:Nat}{x:IV}(h:at2 xs i j=some x):i<xs.length/\j<sz/\i*sz+j<xs.length*sz:=by
 obtain⟨r,h1,h2⟩:=JO h;have h3:=(a7y.1 h1).1
 have h4:j<sz:=by rw[<-hs r (a8y h1)];exact(a7y.1 h2).1
 have h5:(i+1)*sz<=xs.length*sz:=a5E sz (by omega)
 have h6:(i+1)*sz=i*sz+sz:=by rw[a8M];omega
 omega
theorem d8T{A':Nat->Prop}{ZF:Pl}{H':Hp}{w':World}{id b sz:Nat}{k:Nat×Nat}{xs ys:List (List IV)}{C:Array Value}{e:TypeId}(Wn:ZF id=some (b,k))
 (hb:w'.heap[b]? =some (.cells C e (0,0))) (hk:k.1+k.2=C.size) (JX:∀x∈xs,x.length=sz) (hys:∀x∈ys,x.length=sz) (hl:(xs.length+ys.length)*sz<=k.2)
 (h1:∀i j x,at2 xs i j=some x->YB A' w' x (C.getD (k.1+(i*sz+j)) undef))
 (h2:∀i j x,at2 ys i j=some x->YB A' w' x (C.getD (k.1+(xs.length*sz+(i*sz+j))) undef)):Xa A' ZF H' w' id (.list sz (xs++ys)):=by
 refine⟨fun x hx=>?_, .inr ⟨b,k,C,e,Wn,hb,hk,by simpa using hl,fun i j x hx=>?_⟩⟩
 ·rcases List.mem_append.1 hx with hx|hx
  ·exact JX x hx
  ·exact hys x hx
 ·rcases d6T hx with⟨_,hx⟩|⟨hi,hx⟩
  ·exact h1 i j x hx
  ·have:=h2 _ _ _ hx;rw[d9Q]at this;have h3:xs.length*sz<=i*sz:=a5E sz hi
   have e:xs.length*sz+(i*sz-xs.length*sz+j)=i*sz+j:=by omega
   rw[e]at this;exact this
theorem d9T{x y:Operand}{ts:Array TypeId}(hc:comp P ⟨dst, .call ⟨.builtin .append, #[x,y],ts⟩,ty,pos,af,g⟩=some r)(hd:d<1000)(h:Z7 E n ψ s a w)(hk:ZP P d s K r):
 X6 P E n ⟨dst, .call ⟨.builtin .append, #[x,y],ts⟩,ty,pos,af,g⟩ a w K:=by
 obtain⟨t,u,e,e2,ti,zv,h0,h1,hu,Ln,hi,hz,hzs,rfl⟩:=d4T hc
 have Yd:X7 P e=some ti.size:=by simp[X7,hi]
 generalize g6b:ti.size=sz at*;generalize g7b:ti.bytes=bytes at*;simp only[ZP]at hk;have hx:=h.ev x;have hy:=h.ev y
 have grow:∀(m:Nat) (base:Option Addr) (cap:Nat) (us:List Value) (YK:Nat) (ys:List (List IV)),s.elems (s.ev y)=some (YK,ys)->(YK=sz\/ys=[])->a.eval x= .slice base m cap->
  ¬m+ys.length<=cap->m+ys.length<2^62->(m+ys.length)*bytes<=2^47->us.length=m*sz->(∀w2:World,w2.heap=w.heap->(Builtin.firstCells sz m (.slice base m cap)).run P w2= .ok us.toArray w2)->
  ∃(YW:Nat) (C:Array Value) (w':World),Ext w w'/\w'.heap[w.heap.size]? =some (.cells C e (0,0))/\(m+ys.length<=YW/\YW<2^63)/\C.size=YW*sz∧
   (execOp a.eval ⟨dst, .call ⟨.builtin .append, #[x,y],ts⟩,ty,pos,af,g⟩).run P w= .ok (.value (.slice (some ⟨w.heap.size,0,none⟩) (m+ys.length) YW)) w'∧
   (∀q,q<m*sz->C.getD q undef=us.getD q undef)/\(∀y∈ys,y.length=sz)/\∀i j x,at2 ys i j=some x->YB (Im E ψ s.hp) w x (C.getD (m*sz+(i*sz+j)) undef):=by
  intro m base cap us YK ys he TM Ro Wd UA hby hul hur;obtain⟨vs,y1,y2,y3,y4,y5,ady,cy,Lf⟩:=b0B h hy he TM
  obtain⟨YW,rest,⟨c1,c1m⟩,c2,hr⟩:=d3T (P:=P) (ty:=ty) (base:=base) (ady:=ady) (cy:=cy) (m:=m) (cap:=cap) (us:=us) (vs:=vs) h0 h1 hu ⟨e2,Ln⟩ hi hz g6b (w:=w)
   Wd UA (by rw[g7b];exact hby) (fun w2 E4=>by rw[<-Lf];exact y2 w2 E4) hur
  have e1:(m+ys.length)*sz=m*sz+ys.length*sz:=a8M _ _ _;have O1:(m+ys.length)*sz<=YW*sz:=a5E sz c1;have e3:(YW-(m+ys.length))*sz=YW*sz-(m+ys.length)*sz:=d9Q _ _ _
  refine⟨YW,us.toArray++vs.toArray++rest,_,(Ext.drew w).trans (Ext.alloc _ (.cells (us.toArray++vs.toArray++rest) e)),?_,⟨c1,c1m⟩,?_,d1T (by rw[Ro,Lf];exact hr),fun q hq=>?_,y3,fun i j x hx=>?_⟩
  ·exact qq w.drew _
  ·simp only[Array.size_append,List.size_toArray,hul,y1,c2,hzs,e3];omega
  ·rw[d5T,if_pos (by omega)]
  ·have hb:=qF y3 hx;rw[d5T,if_neg (by omega),if_pos (by omega),hul,show m*sz+(i*sz+j)-m*sz=i*sz+j from by omega];exact y4 i j x hx
 generalize hax:s.ev x=ax at hx hk;split at hk
 ·-- WI a list of g0o own
  rename_i id ZB lo m YK ys he;split at hk
  ·rename_i o ho;split at hk
   ·rename_i z0 xs Xt;obtain⟨rfl,TM,VF,hlm,hby,UA,hk⟩:=hk;obtain⟨o',xm,q1,SB,q2,Ya⟩:=Jg hx;rw[ho]at q1;cases q1;have Ff:=c3U Xt;rw[SB]at Ff;simp only[a5y,a6J]at Ff;obtain⟨hd1,sg⟩:=Ff;have hd1:=hd1.symm;subst hd1;subst sg;obtain⟨QO,f0t⟩:=c1U Xt (h.YH id _ ho)
    have G6:(xs.drop lo).length=m:=by simp;omega
    have tS:∀x∈xs.drop lo,x.length=z0:=fun x hx=>QO x (b3M hx)
    have hlen:(xs.drop lo++ys).length=m+ys.length:=by simp;omega
    have NK:s.elems (.sl id z0 lo m)=some (z0,xs.drop lo):=by
     simp only[St.elems,ho,Xt]
     congr 2
     rw[<-G6,List.take_length]
    obtain⟨us,x1,x2,x3,x4,x5,adx,cx,g8b⟩:=b0B h hx NK (.inl rfl);rw[G6]at x1 x2 g8b
    have new:∀base cap,a.eval x= .slice base m cap->¬m+ys.length<=cap->X6 P E n ⟨dst, .call ⟨.builtin .append, #[x,y],ts⟩,ty,pos,af,g⟩ a w K:=by
     intro base cap Ro Wd;obtain⟨YW,C,w',w1,w2,⟨w3,w3m⟩,w4,w5,w6,w7,w8⟩:=grow m base cap us YK ys he TM Ro Wd UA hby x1 (fun w2 E4=>by rw[<-Ro];exact x2 w2 E4)
     have h2:=h.renew (o':=o.Xu z0 (xs.drop lo++ys)) VF ho (c5U Xt) (p:=some (w.heap.size,(0,C.size))) (w':=w') (fun b hb _=>w1.block b hb) w1.size w1.same
      (fun b k e=>by cases e;exact .inl (a8F _))
      (c2U Xt<|d8T (b:=w.heap.size) (k:=(0,C.size)) (by simp[XF]) w2 (by simp) tS w7 (by rw[G6,w4];exact a5E z0 w3)
       (fun i j x hx=>by
        have hb:=qF tS hx;rw[G6]at hb;rw[b4s,w6 _ (by omega)]
        exact(x4 i j x hx).mono (fun b hb hi=>⟨hb,hi⟩) (fun b hb _=>w1.block b hb))
       (fun i j x hx=>by
        rw[b4s,G6]
        exact(w8 i j x hx).mono (fun b hb hi=>⟨hb,hi⟩) (fun b hb _=>w1.block b hb)))
     exact SH w5 hk h2 (.sl id z0 0 (m+ys.length) w.heap.size (0,C.size) YW _ (o.Xu z0 (xs.drop lo++ys)) _ (by simp[WX]) (c4U Xt) (by rw[hlen];omega) (by simp[XF]) (fun _=>by simp) w3 (by rw[w4];simp) w3m)
    rcases Ya with⟨p1,rfl,rfl,Ro⟩|⟨b,k,cap,ad,p1,p2,p3,p4,Ro⟩
    ·-- nil
     by_cases hy0:ys=[]
     ·subst hy0
      have JX:xs=[]:=by
       rcases f0t with⟨_,h2⟩|⟨b',k',c',e',h2,_⟩
       ·exact h2
       ·rw[p1]at h2;cases h2
      subst JX;obtain⟨vs,y1,y2,y3,y4,y5,ady,cy,Lf⟩:=b0B h hy he TM
      have hr:=d2T (P:=P) (ty:=ty) (base:=none) (ady:=ady) (cy:=cy) (m:=0) (cap:=0) (ny:=0) (vs:=vs) h0 h1 hu ⟨e2,Ln⟩ Yd (w:=w) (w':=w) (by omega)
       (by have:=y2 w rfl;rw[Lf]at this;exact this) (fun ad e=>by cases e) (fun _=>rfl)
      have h2:=h.renew (o':=o.Xu z0 []) VF ho (c5U Xt) (p:=none) (w':=w) (fun _ _ _=>rfl) (a8F _) ⟨rfl,rfl,rfl,a8F _⟩ (fun _ _ e=>by cases e)
       (c2U Xt ⟨by simp, .inl ⟨by simp[XF],rfl⟩⟩)
      refine SH (d1T (by rw[Ro,Lf];exact hr)) (by simpa using hk) h2 ?_;exact .U4 id z0 (o.Xu z0 []) 0 (by simp[WX]) (c4U Xt) (by simp[XF])
     ·exact new none 0 Ro (by have:=a6I.2 hy0;omega)
    ·by_cases Wd:m+ys.length<=cap
     ·-- where there is room
      obtain⟨vs,y1,y2,y3,y4,y5,ady,cy,Lf⟩:=b0B h hy he TM
      rcases f0t with⟨Ra,_⟩|⟨b',k',c,e',g1,g2,g3,g3',g4⟩
      ·rw[Ra]at p1;cases p1
      rw[g1]at p1;cases p1;have e1:(lo+cap)*z0=lo*z0+cap*z0:=a8M _ _ _;have e3:(m+ys.length)*z0<=cap*z0:=a5E z0 Wd;have e4:(m+ys.length)*z0=m*z0+ys.length*z0:=a8M _ _ _
      have st:∃w',(∀ad',some ad=some ad'->(storeCells (ad'.add (m*z0)) vs).run P w= .ok () w')/\(∀j,j≠b->w'.heap[j]? =w.heap[j]?)/\w'.heap.size=w.heap.size∧
       (w'.os=w.os/\w'.tape=w.tape/\w'.output=w.output/\w.drawn<=w'.drawn)/\∃c',w'.heap[b]? =some (.cells c' e' (0,0))/\c'.size=c.size∧
       ∀q,q<c.size->c'.getD q undef=if k.1+lo*z0+m*z0<=q/\q<k.1+lo*z0+m*z0+vs.length then vs.getD (q-(k.1+lo*z0+m*z0)) undef else c.getD q undef:=by
       by_cases hv0:vs=[]
       ·subst hv0;refine⟨w,fun ad' _=>rfl,fun _ _=>rfl,rfl,⟨rfl,rfl,rfl,a8F _⟩,c,g2,rfl,fun q _=>?_⟩;rw[if_neg (by simp)]
       ·have LD:0<vs.length:=a6I.2 hv0
        have VA:0<cap:=by
         rcases b5j cap with UZ|UZ
         ·rw[UZ]at Wd
          have:ys.length=0:=by omega
          rw[this]at y1;omega
         ·exact UZ
        have p2:=p2 VA;obtain⟨w',r1,r2,r3,r4,r5⟩:=a7D (P:=P) b (k.1+lo*z0+m*z0) vs 0 w c e' g2 y5 (by omega);refine⟨w',fun ad' hh=>?_,r2,r3,r4,U5 c (k.1+lo*z0+m*z0) vs,r5,IN _ _ _,fun q hq=>Fq _ _ _ _ hq⟩;cases hh;rw[p2,Fk];exact r1
      obtain⟨w',r1,r2,r3,r4,c',r5,r6,r7⟩:=st
      have hr:=d2T (P:=P) (ty:=ty) (base:=some ad) (ady:=ady) (cy:=cy) (m:=m) (cap:=cap) (ny:=ys.length) (vs:=vs) h0 h1 hu ⟨e2,Ln⟩ Yd (w:=w) (w':=w') Wd
       (by rw[<-Lf];exact y2 w rfl) r1 (fun e=>by cases e)
      have hH:ZD ψ s.hp b:=⟨id,_,ho, .inl ⟨k,g1⟩⟩
      have qN:∀{x v},YB (Im E ψ s.hp) w x v->YB (fun b=>b<w.heap.size/\Im E ψ s.hp b) w' x v:=fun hh=>hh.mono (fun b hb hi=>⟨hb,hi⟩) (fun j _ hi=>r2 j (fun e=>hi.2 (e▸hH)))
      have h2:=h.renew (o':=o.Xu z0 (xs.drop lo++ys)) VF ho (c5U Xt) (p:=some (b,(k.1+lo*z0,k.2-lo*z0))) (w':=w') (fun j hj ZS=>r2 j (fun e=>ZS k (by rw[e];exact g1))) (by omega) r4
       (fun b1 k1 e=>by cases e;exact .inr ⟨k,g1⟩)
       (c2U Xt<|d8T (b:=b) (k:=(k.1+lo*z0,k.2-lo*z0)) (by simp[XF]) r5 (by simp;omega) tS y3 (by rw[G6];simp;omega)
        (fun i j x hx=>by
         have hb:=qF tS hx;rw[G6]at hb;rw[r7 _ (by simp;omega),if_neg (by simp;omega)]
         have Vw:at2 xs (lo+i) j=some x:=by simpa[at2,a9J]using hx
         have:=g4 _ _ _ Vw;rw[a8M]at this;simp only;rw[show k.1+lo*z0+(i*z0+j)=k.1+(lo*z0+i*z0+j)from by omega]
         exact qN this)
        (fun i j x hx=>by
         have hb:=qF y3 hx;rw[G6];simp only;rw[r7 _ (by omega),if_pos (by omega),show k.1+lo*z0+(m*z0+(i*z0+j))-(k.1+lo*z0+m*z0)=i*z0+j from by omega]
         exact qN (y4 i j x hx)))
      refine SH (d1T (by rw[Ro,Lf];exact hr)) hk h2 ?_;refine .sl id z0 0 (m+ys.length) b (k.1+lo*z0,k.2-lo*z0) cap ad (o.Xu z0 (xs.drop lo++ys)) _ (by simp[WX]) (c4U Xt) (by rw[hlen];omega) (by simp[XF]) (fun hc=>by rw[p2 hc];simp) Wd (by simp;omega) (by rw[Ro]at hx;exact b0U hx)
     ·exact new (some ad) cap Ro Wd
   ·exact hk.elim
  ·exact hk.elim
 ·-- WI nil
  rename_i ZB YK ys he;obtain⟨TM,hby,UA,hk⟩:=hk;have Ro:=Eu hx;have rr:=h.drop (id:=d) hd
  by_cases hy0:ys=[]
  ·subst hy0;obtain⟨vs,y1,y2,y3,y4,y5,ady,cy,Lf⟩:=b0B h hy he TM
   have hr:=d2T (P:=P) (ty:=ty) (base:=none) (ady:=ady) (cy:=cy) (m:=0) (cap:=0) (ny:=0) (vs:=vs) h0 h1 hu ⟨e2,Ln⟩ Yd (w:=w) (w':=w) (by omega)
    (by have:=y2 w rfl;rw[Lf]at this;exact this) (fun ad e=>by cases e) (fun _=>rfl)
   have h2:=rr.new (o:= .list sz []) (p:=none) hd (JY s d) (Ext.refl w) (fun _ _ e=>by cases e) ⟨(fun x hx=>by cases hx), .inl ⟨by simp[XF],rfl⟩⟩;refine SH (d1T (by rw[Ro,Lf];exact hr)) hk h2 ?_;exact .U4 d sz (.list sz []) 0 (by simp[WX]) rfl (by simp[XF])
  ·obtain⟨YW,C,w',w1,w2,⟨w3,w3m⟩,w4,w5,w6,w7,w8⟩:=grow 0 none 0 [] YK ys he TM Ro (by have:=a6I.2 hy0;omega) (by omega) (by simpa using hby) (by simp) (fun _ _=>rfl)
   have EX:∀b,b<w.heap.size->Im E ψ s.hp b->Im E ψ (s.drop d).hp b:=by
    rintro b _ ⟨i1,i2⟩;refine⟨i1,?_⟩;rintro⟨k,o,ho,hq⟩;unfold St.drop at ho;split at ho
    ·exact i2 ⟨k,o,ho,hq⟩
    ·simp only[Iy]at ho;split at ho
     ·cases ho
     ·rw[Ir]at ho
      cases XQ:look s.hp k with
      |none=>rw[XQ]at ho;cases ho
      |some o'=>exact i2 ⟨k,o',XQ,hq⟩
   have h2:=rr.new (o:= .list sz ys) (p:=some (w.heap.size,(0,C.size))) hd (JY s d) w1 (fun b k e=>by cases e;exact a8F _)
    (d8T (xs:=[]) (b:=w.heap.size) (k:=(0,C.size)) (by simp[XF]) w2 (by simp) (by simp) w7 (by rw[w4];simpa using a5E sz w3) (by simp[at2])
     (fun i j x hx=>by
      have:=w8 i j x hx;simp only[Nat.zero_mul,b4s,c4n]at this⊢
      exact this.mono (fun b hb hi=>⟨hb,EX b hb hi⟩) (fun b hb _=>w1.block b hb)))
   rw[b4s]at w5 w3;exact SH w5 hk h2 (.sl d sz 0 ys.length w.heap.size (0,C.size) YW _ (.list sz ys) ys.length (by simp[WX]) rfl (by omega) (by simp[XF]) (fun _=>by simp) w3 (by rw[w4];simp) w3m)
 ·exact hk.elim
end
section
variable{P:Program}{E:En}{n:Nat}{ψ:Pl}{s:St}{a:Act}{w:World}
variable{dst:Option Nat}{ty:TypeId}{pos:String}{af:Array Edge}{g:Option (Nat×Bool)}{r:Wu}{d:Nat}{K:St->AV->Prop}
theorem a9w{t:TypeId}{x y:Operand}{q:Nat}(hq:X7 P t=some q){b o:Nat}(hx:a.eval x= .pointer (some ⟨b,o,none⟩))(hl:(a.eval y).cells.size=q){w':World}
 (hs:(storeCells ⟨b,o,none⟩ (a.eval y).cells.toList).run P w= .ok () w'):
 (execOp a.eval ⟨dst, .store t x y,ty,pos,af,g⟩).run P w= .ok .skip w':=by
 simp only[execOp,Instr.storeAt,hx,sure,storeVar,Sem.run_bind,Sem.run_pure',Result.andThen_ok,run_sizeOf w hq,hl,ne_eq,not_true,if_false,hs,Sem.run_pure]
theorem a0x{t:TypeId}{x y:Operand}{q:Nat}(hq:X7 P t=some q)(h:Z7 E n ψ s a w)(hk:ZP P d s K (.st x y q))
 (Y6:∀id sz i off z xs hole,s.ev x= .ep id sz i off->look (s.Y9 [s.ev y]).hp id≠some (.ZI z xs hole)):
 X6 P E n ⟨dst, .store t x y,ty,pos,af,g⟩ a w K:=by
 simp only[ZP]at hk;have hx:=h.ev x;have hy:=h.ev y;generalize hax:s.ev x=ax at hx hk;split at hk
 ·rename_i id off;split at hk
  ·rename_i cs cy ho Pa;obtain⟨hl,Yq,S2,hk⟩:=hk;obtain⟨b,k,o,XQ,hb,Ro⟩:=ED hx;obtain⟨b',c,e,h1,h2,h3,h4⟩:=h.YH id _ ho;rw[h1]at hb;cases hb;obtain⟨g1,g2⟩:=qH hy Pa
   have hlen:(a.eval y).cells.toList.length=cy.length:=by simpa using g1
   have g2':∀i x,cy[i]? =some x->ZK (Im E ψ s.hp) ψ s.hp w x ((a.eval y).cells.toList.getD i undef):=fun i x hx=>by rw[SK];exact g2 i x hx
   obtain⟨w',r1,r2,r3,r4,r5⟩:=a7D (P:=P) b off (a.eval y).cells.toList 0 w c e h2 (a8D hlen g2' S2) (by omega);have XC:=a9w (dst:=dst) (ty:=ty) (pos:=pos) (af:=af) (g:=g) hq Ro (by omega) r1;have hsr:(Zc cs off cy).length=cs.length:=a0D _ _ _ (by omega)
   have MI:=h.MH (o':= .box (Zc cs off cy)) ho (Ob.le_none rfl) rfl (by simp[Ob.multi]) h1 r2 r3 r4 (fun tr _=>by
    refine⟨b,U5 c off (a.eval y).cells.toList,e,by rw[IN];exact h1,r5,by rw[IN,hsr];exact h3,fun i z hz=>tr _ _ (a2D h3 h4 hlen g2' (by omega) i z hz)⟩)
   exact sw XC hk MI
  ·exact hk.elim
 ·rename_i id sz0 i off;have hf:=h.Y9 [s.ev y];have hy':=hf.ev y;have Vw:=hf.ev x;split at hk
  ·rename_i sz xs cy ho Pa;split at hk
   ·rename_i r hr;obtain⟨hex,hl,Yq,hk⟩:=hk;rw[hex]at Vw;obtain⟨b,k,o',m',XQ,Xr,hi,hb,Ro⟩:=b2T Vw;rw[ho]at XQ;cases XQ;simp only[Ob.dim,a5y,a6J]at Xr;obtain⟨hz1,hz2⟩:=Xr;subst hz2
    cases hcs:((s.Y9 [s.ev y]).ev y).cellsOf with
    |none=>rw[hcs]at Pa;cases Pa
    |some cs=>
     rw[hcs]at Pa;simp only[a5J]at Pa;obtain⟨g1,g2⟩:=qH hy' hcs
     have hlen:(a.eval y).cells.toList.length=cs.length:=by simpa using g1
     obtain⟨v1,v2⟩:=a9D hf hlen (fun i x hx=>by rw[SK];exact g2 i x hx) Pa;obtain⟨QO,Uh⟩:=hf.YH id _ ho
     rcases Uh with⟨Ra,_⟩|⟨b',k',c,e,h1,h2,h3,Te,h4⟩
     ·rw[Ra]at hb;cases hb
     rw[h1]at hb;cases hb;have qG:=QO r (a8y hr);have hm:(i+1)*sz<=xs.length*sz:=a5E sz (by omega)
     have e2:(i+1)*sz=i*sz+sz:=by rw[a8M];omega
     have f0g:∀v∈(a.eval y).cells.toList,v.oneCell'=true:=by
      intro v hv;obtain⟨j,hj,rfl⟩:=d8m hv;have hcj:cy[j]? =some cy[j]:=a3I (by omega);have:=v2 j _ hcj;rw[show(a.eval y).cells.toList.getD j undef=(a.eval y).cells.toList[j]from by rw[a7V,a3I hj];rfl]at this;exact this.one
     obtain⟨w',r1,r2,r3,r4,r5⟩:=a7D (P:=P) b (k.1+(i*sz+off)) (a.eval y).cells.toList 0 w c e h2 f0g (by omega);have XC:=a9w (dst:=dst) (ty:=ty) (pos:=pos) (af:=af) (g:=g) hq Ro (by omega) r1;have hsr:(Zc r off cy).length=r.length:=a0D _ _ _ (by omega)
     have MI:=hf.MH (o':= .list sz (xs.set i (Zc r off cy))) ho (Ob.Se rfl rfl (by simp)) rfl (by simp[Ob.multi]) h1 r2 r3 r4 (fun _ tr=>by
      refine⟨fun z hz=>?_, .inr ⟨b,k,U5 c (k.1+(i*sz+off)) (a.eval y).cells.toList,e,h1,r5,by rw[IN];exact h3,by simpa using Te,fun i' j z hz=>?_⟩⟩
      ·rcases c7S hz with hz|rfl
       ·exact QO z hz
       ·omega
      ·have XB:i'<xs.length/\j<sz/\i'*sz+j<xs.length*sz:=by
        have:=qF (xs:=xs.set i (Zc r off cy)) (sz:=sz) (fun y hy=>by
         rcases c7S hy with hy|rfl
         ·exact QO y hy
         ·omega) hz
        simpa using this
       rw[Fq _ _ _ _ (by omega)]
       by_cases hii:i'=i
       ·subst hii
        have IL:(Zc r off cy)[j]? =some z:=by simpa[at2,b6T,hi]using hz
        rw[a1D _ _ _ (by omega)]at IL
        by_cases IK:off<=j/\j<off+cy.length
        ·rw[if_pos IK]at IL;rw[if_pos (by omega),show k.1+(i'*sz+j)-(k.1+(i'*sz+off))=j-off from by omega];exact tr _ _ (v2 _ _ IL)
        ·rw[if_neg IK]at IL;rw[if_neg (by omega)];exact tr _ _ (h4 _ _ _ (qE hr IL))
       ·have IL:at2 xs i' j=some z:=by simpa[at2,b6T,Ne.symm hii]using hz
        have ZS:¬(k.1+(i*sz+off)<=k.1+(i'*sz+j)/\k.1+(i'*sz+j)<k.1+(i*sz+off)+(a.eval y).cells.toList.length):=by
         rcases Nat.lt_or_gt_of_ne hii with ZV|ZV
         ·have h7:(i'+1)*sz<=i*sz:=a5E sz (by omega)
          have h8:(i'+1)*sz=i'*sz+sz:=by rw[a8M];omega
          omega
         ·have h7:(i+1)*sz<=i'*sz:=a5E sz (by omega);omega
        rw[if_neg ZS]
        exact tr _ _ (h4 _ _ _ IL))
     exact sw XC hk MI
   ·exact hk.elim
  ·rename_i ho;exact absurd ho (Y6 _ _ _ _ _ _ _ hax)
  ·exact hk.elim
 ·exact hk.elim
/-! ### f1u are held f2u one another,cell by cell. -/
theorem a1x:∀(ks:List Kd) (cs ds:List AV) (b:Bool),Ug ks cs ds=some b->cs.length=ks.length/\ds.length=ks.length:=by
 intro ks
 induction ks with
 |nil=>intro cs ds b h;unfold Ug at h;split at h<;>simp_all
 |cons k ks ih=>
  intro cs ds b h;unfold Ug at h;split at h
  ·simp_all
  ·rename_i t ks' u r v q hk;cases hk
   cases hc:IJ k u v with
   |none=>rw[hc]at h;cases h
   |some z=>
    rw[hc]at h;simp only[a5J]at h
    cases hr:Ug ks r q with
    |none=>rw[hr]at h;cases h
    |some z2=>obtain⟨g1,g2⟩:=ih _ _ _ hr;simp[g1,g2]
  ·cases h
theorem a2x:∀(k1 k2:List Kd) (cs ds:List AV) (b:Bool),Ug (k1++k2) cs ds=some b->
 ∃b1 b2,Ug k1 (cs.take k1.length) (ds.take k1.length)=some b1/\Ug k2 (cs.drop k1.length) (ds.drop k1.length)=some b2/\b=(b1&&b2):=by
 intro k1
 induction k1 with
 |nil=>intro k2 cs ds b h;exact⟨true,b,by simp[Ug],by simpa using h,by simp⟩
 |cons k k1 ih=>
  intro k2 cs ds b h;rw[c6h]at h;unfold Ug at h;split at h
  ·rename_i hh;cases hh
  ·rename_i t ks' u r v q hk;cases hk
   cases hc:IJ k u v with
   |none=>rw[hc]at h;cases h
   |some z=>
    rw[hc]at h;simp only[a5J]at h
    cases hr:Ug (k1++k2) r q with
    |none=>rw[hr]at h;cases h
    |some z2=>
     rw[hr]at h;simp only[a4G,a5y]at h;obtain⟨b1,b2,g1,g2,rfl⟩:=ih _ _ _ _ hr;refine⟨z&&b1,b2,?_,by simpa using g2,by rw[<-h,Bool.and_assoc]⟩;simp[Ug,hc,g1]
  ·cases h
def Rel(us:Array Value)(cs:List AV):Prop:=us.size=cs.length/\∀i x,cs[i]? =some (.iv (.v x))->us.getD i undef=x
theorem Rel.part{us:Array Value}{cs:List AV}(h:Rel us cs){o q:Nat}(hq:o+q<=cs.length):Rel (us.extract o (o+q)) ((cs.drop o).take q):=by
 obtain⟨h1,h2⟩:=h;refine⟨by simp;omega,fun i x hx=>?_⟩;rw[a5N]at hx;split at hx
 ·rename_i hi;rw[a9J]at hx;have:=h2 _ _ hx;rw[<-this];simp only[a4E,Array.getElem?_extract];rw[if_pos (by omega)]
 ·cases hx
theorem a3x{d:Nat}{t:TypeId}{k:Kd}(hu:P.underlying t=some (match k with| .b=> .bool| .i j=> .int j| .s=> .string)){u v:Value}{b:Bool}(h:IJ k u v=some b)
 (w:World):(Op.equalIn (d+1) t u v).run P w= .ok b w:=by
 cases k with
 |b=>
  cases u<;>cases v<;>simp only[IJ]at h<;>cases h
  exact b6U d hu _ _ w
 |i j=>
  cases u<;>cases v<;>simp only[IJ]at h<;>(first|(cases h;done)|skip)
  split at h
  ·cases h;subst_vars;simp[Op.equalIn,run_underlying w hu]
  ·cases h
 |s=>
  cases u<;>cases v<;>simp only[IJ]at h<;>cases h
  simp[Op.equalIn,run_underlying w hu]
theorem a4x{us vs:Array Value}{cs ds:List AV}(h1:Rel us cs)(h2:Rel vs ds){o:Nat}(ho:o+1<=cs.length)(EC:o+1<=ds.length){k:Kd}{b:Bool}
 (h:Ug [k] ((cs.drop o).take 1) ((ds.drop o).take 1)=some b):IJ k (us.getD o undef) (vs.getD o undef)=some b:=by
 have e1:cs[o]? =some cs[o]:=a3I (by omega);have e2:ds[o]? =some ds[o]:=a3I (by omega)
 have d1:(cs.drop o).take 1=[cs[o]]:=by rw[c8S (by omega),d9m,b2S]
 have d2:(ds.drop o).take 1=[ds[o]]:=by rw[c8S (by omega),d9m,b2S]
 rw[d1,d2]at h;unfold Ug at h;split at h
 ·rename_i hh _ _;cases hh
 ·rename_i t ks u r v q hk hc hd;simp only[a4S]at hk hc hd;obtain⟨rfl,rfl⟩:=hk;obtain⟨hc,rfl⟩:=hc;obtain⟨hd,rfl⟩:=hd;rw[hc]at e1;rw[hd]at e2;rw[h1.2 _ _ e1,h2.2 _ _ e2]
  cases hz:IJ k u v with
  |none=>rw[hz]at h;cases h
  |some z=>rw[hz]at h;simp[Ug]at h;rw[h]
 ·cases h
theorem a5x:∀(
 d:Nat) (t:TypeId) (ks:List Kd),Sd P d t=some ks->∀(D:Nat),d<=D->∀(us vs:Array Value) (cs ds:List AV) (o:Nat) (b:Bool),Rel us cs->Rel vs ds->
 o+ks.length<=cs.length->o+ks.length<=ds.length->Ug ks ((cs.drop o).take ks.length) ((ds.drop o).take ks.length)=some b->
 (XZ P t=true->X7 P t=some ks.length->(Op.equalIn D t (.agg (us.extract o (o+ks.length))) (.agg (vs.extract o (o+ks.length)))).run P w= .ok b w)∧
 (X7 P t=some ks.length->∃X Y,(part t us o).run P w= .ok X w/\(part t vs o).run P w= .ok Y w/\(Op.equalIn D t X Y).run P w= .ok b w):=by
 intro d
 induction d with
 |zero=>intro t ks h;cases h
 |succ d ih=>
  intro t ks WZ D hD us vs cs ds o b r1 r2 l1 l2 he;obtain⟨D,rfl⟩:∃D',D=D'+1:=⟨D-1,by omega⟩;unfold Sd at WZ
  have leaf:∀(k:Kd),P.underlying t=some (match k with| .b=> .bool| .i j=> .int j| .s=> .string)->ks=[k]->
   (XZ P t=true->X7 P t=some ks.length->(Op.equalIn (D+1) t (.agg (us.extract o (o+ks.length))) (.agg (vs.extract o (o+ks.length)))).run P w= .ok b w)∧
   (X7 P t=some ks.length->∃X Y,(part t us o).run P w= .ok X w/\(part t vs o).run P w= .ok Y w/\(Op.equalIn (D+1) t X Y).run P w= .ok b w):=by
   rintro k hu rfl
   have hg:XZ P t=false:=by unfold XZ;rw[hu];cases k<;>rfl
   simp only[List.length_singleton]at l1 l2 he⊢;refine⟨(by rw[hg];intro h;cases h),fun _=>⟨us.getD o undef,vs.getD o undef,?_,?_,?_⟩⟩
   ·exact c4v hu hg (by have:=r1.1;omega) w
   ·exact c4v hu hg (by have:=r2.1;omega) w
   ·exact a3x hu (a4x r1 r2 l1 l2 he) w
  split at WZ
  ·rename_i hu;exact leaf .b hu (by simpa using WZ.symm)
  ·rename_i k hu;exact leaf (.i k) hu (by simpa using WZ.symm)
  ·rename_i hu;exact leaf .s hu (by simpa using WZ.symm)
  ·rename_i fs hu;split at WZ
   ·cases WZ
   ·rename_i YL
    have YL:P.stoodInHeld t=false:=by simpa using YL
    have hg:XZ P t=true:=by unfold XZ;rw[hu]
    have fields:∀(l:List Field) (k0 ks:List Kd) (us vs:Array Value) (cs ds:List AV) (b:Bool),Rel us cs->Rel vs ds->cs.length=ks.length->ds.length=ks.length->
     l.foldlM (fun ks f=>if f.name≠ "_"/\f.offset=ks.length then(Sd P d f.type).bind fun q=>if X7 P f.type=some q.length then some (ks++q)else none else none) k0=some ks->
     ∀k2,ks=k0++k2->Ug k2 (cs.drop k0.length) (ds.drop k0.length)=some b->(Op.eqFields D us vs l).run P w= .ok b w:=by
     intro l
     induction l with
     |nil=>
      intro k0 ks us vs cs ds b _ _ _ _ hf k2 hk he;simp only[List.foldlM_nil,Option.pure_def,a5y]at hf;subst hf
      have:k2=[]:=by simpa using hk.symm
      subst this;have:=a1x _ _ _ _ he;have h1:cs.drop k0.length=[]:=a8R (by simpa using this.1);have h2:ds.drop k0.length=[]:=a8R (by simpa using this.2);rw[h1,h2]at he;simp[Ug]at he;subst he;rfl
     |cons f l ihl=>
      intro k0 ks us vs cs ds b r1 r2 SJ MG hf k2 hk he;rw[c5L]at hf
      by_cases hc:f.name≠ "_"/\f.offset=k0.length
      ·rw[if_pos hc]at hf
       cases hp:Sd P d f.type with
       |none=>simp[hp]at hf
       |some q=>
        simp only[hp,a5J]at hf
        by_cases hq:X7 P f.type=some q.length
        ·rw[if_pos hq]at hf;simp only[a1V,a5J]at hf
         have OY:∃k3,ks=(k0++q)++k3:=by
          have aux:∀(l:List Field) (k0 ks:List Kd),l.foldlM (fun ks f=>if f.name≠ "_"/\f.offset=ks.length then(Sd P d f.type).bind fun q=>if X7 P f.type=some q.length then some (ks++q)else none else none) k0=some ks->∃k3,ks=k0++k3:=by
           intro l
           induction l with
           |nil=>intro k0 ks h;simp at h;subst h;exact⟨[],by simp⟩
           |cons f l ih=>
            intro k0 ks h;rw[c5L]at h;split at h
            ·cases hp:Sd P d f.type with
             |none=>simp[hp]at h
             |some q=>
              simp only[hp,a5J]at h;split at h
              ·simp only[a1V,a5J]at h;obtain⟨k3,e⟩:=ih _ _ h;exact⟨q++k3,by rw[e,c1y]⟩
              ·simp at h
            ·simp at h
          exact aux _ _ _ hf
         obtain⟨k3,NI⟩:=OY
         have UD:k2=q++k3:=by rw[hk,c1y]at NI;exact List.append_cancel_left NI
         subst UD;obtain⟨b1,b2,g1,g2,rfl⟩:=a2x q k3 _ _ _ he
         have hlen:k0.length+q.length<=ks.length:=by rw[hk];simp
         obtain⟨X,Y,p1,p2,p3⟩:=(ih f.type q hp D (by omega) us vs cs ds k0.length b1 r1 r2 (by omega) (by omega) g1).2 hq;have OX:=ihl (k0++q) ks us vs cs ds b2 r1 r2 SJ MG hf k3 NI (by rw[List.length_append, <-d1P, <-d1P];exact g2);simp only[Op.eqFields,if_pos hc.1,Sem.run_bind,hc.2,p1,p2,p3,Result.andThen_ok];cases b1
         ·simp
         ·simp[OX]
        ·rw[if_neg hq]at hf;simp at hf
      ·rw[if_neg hc]at hf;simp at hf
    have whole:X7 P t=some ks.length->(Op.equalIn (D+1) t (.agg (us.extract o (o+ks.length))) (.agg (vs.extract o (o+ks.length)))).run P w= .ok b w:=by
     intro _
     have ht:P.underlying t=some (.struct (P.fieldsOf t)):=by simp[Program.fieldsOf,hu]
     rw[run_equalIn_struct w D t _ _ ht YL]
     have sv:P.fieldsOf t=fs:=by simp[Program.fieldsOf,hu]
     rw[sv];exact fields fs.toList [] ks _ _ _ _ b (r1.part l1) (r2.part l2) (by simp;omega) (by simp;omega) WZ ks (by simp) (by simpa using he)
    refine⟨fun _=>whole,fun hi=>⟨_,_,c5v hu hg hi us o w,c5v hu hg hi vs o w,whole hi⟩⟩
  ·cases WZ
theorem a6x{A:Nat->Prop}{H:Hp}{us:Array Value}{cs:List AV}(hl:us.size=cs.length)(h:∀i c,cs[i]? =some c->ZK A ψ H w c (us.getD i undef)):Rel us cs:=
 ⟨hl,fun i x hx=>VN (h i _ hx)⟩
theorem a7x{op:BinOp}{xt yt:TypeId}{x y:Operand}{neg:Bool}{fs:Array Field}{ks:List Kd}(hu:P.underlying xt=some (.struct fs))(hg:P.eqGuardType P.depth xt=false)
 (WZ:Sd P 20 xt=some ks) (NR:op=if neg then .neq else .eql) (h:Z7 E n ψ s a w) (hk:ZP P d s K (.eqs neg ks x y)) (hi:X7 P xt=some ks.length):
 XY P E n ⟨dst, .binOp op xt x y yt,ty,pos,af,g⟩ a w K:=by
 simp only[ZP]at hk;have hx:=h.ev x;have hy:=h.ev y;generalize s.ev x=ax at hx hk;generalize s.ev y=ay at hy hk;split at hk
 ·rename_i cs ds;split at hk
  ·rename_i b hb;obtain⟨us,u1,u2,eu⟩:=qD hx;obtain⟨vs,v1,v2,ev⟩:=qD hy;obtain⟨l1,l2⟩:=a1x _ _ _ _ hb
   have hag:XZ P xt=true:=by unfold XZ;rw[hu]
   refine Wo h (v:= .bool (if neg then !b else b)) (fun w=>?_) hk (UP rfl)
   have key:=(a5x (P:=P) (w:=w) 20 xt ks WZ 10000 (by omega) us vs cs ds 0 b (a6x u1 u2) (a6x v1 v2) (by omega) (by omega) (by
    rw[c2T,c2T,a2B (by omega),a2B (by omega)];exact hb)).1 hag hi
   have e1:us.extract 0 (0+ks.length)=us:=by rw[b4s, <-l1, <-u1];simp
   have e2:vs.extract 0 (0+ks.length)=vs:=by rw[b4s, <-l2, <-v1];simp
   rw[e1,e2]at key;have Q9:=run_eqGuard_agg (P:=P) w op xt x y us vs hg;subst NR;cases neg
   ·simp only[a5M,if_false]at Q9⊢;simp only[execOp,eu,ev,Sem.run_bind,Q9,Result.andThen_ok,run_eql_struct,key,Sem.run_pure]
   ·simp only[if_true]at Q9⊢;simp only[execOp,eu,ev,Sem.run_bind,Q9,Result.andThen_ok,run_neq_struct,key,Sem.run_pure]
  ·exact hk.elim
 ·exact hk.elim
end
section
variable{P:Program}{E:En}{n:Nat}{ψ:Pl}{s:St}{a:Act}{w:World}
variable{dst:Option Nat}{ty:TypeId}{pos:String}{af:Array Edge}{g:Option (Nat×Bool)}{r:Wu}{d:Nat}{K:St->AV->Prop}
def IQ(E:En)(fr:Bool)(ψ:Pl)(s:St)(H:Hp)(w:World)(b:Nat):Prop:=b<w.heap.size/\(if fr then ¬ZD ψ H b else Im E ψ s.hp b)
theorem d6V{fr:Bool}{H:Hp}(Y7:∀id o,look H id=some o->look s.hp id=some o){b:Nat}(hb:b<w.heap.size)(h:Im E ψ s.hp b):IQ E fr ψ s H w b:=by
 refine⟨hb,?_⟩;cases fr
 ·exact h
 ·rintro⟨id,o,h1,h2⟩;exact h.2 ⟨id,o,Y7 id o h1,h2⟩
theorem d7V{α β:Type}{f:α->Option β}:∀{cs:List α} {l:List β},Zm f cs=some l->l.length=cs.length/\∀(i:Nat) (y:β),l[i]? =some y->∃x:α,cs[i]? =some x/\f x=some y
 | [],l,h=>by simp only[Zm,a5y]at h;subst h;simp
 |x::r,l,h=>by
  simp only[Zm]at h;split at h
  ·rename_i y hy
   cases hr:Zm f r with
   |none=>rw[hr]at h;cases h
   |some l'=>
    rw[hr]at h;simp only[a4G,a5y]at h;subst h;obtain⟨g1,g2⟩:=d7V hr;refine⟨by simp[g1],fun i z hz=>?_⟩
    cases i with
    |zero=>simp only[a9E,a5y]at hz;subst hz;exact⟨x,rfl,hy⟩
    |succ i=>simpa using g2 i z (by simpa using hz)
  ·cases h
theorem d8V(
 h:Z7 E n ψ s a w) {H:Hp} (Y7:∀id o,look H id=some o->look s.hp id=some o):∀(d:Nat) (x:AV) (v:Value) (y:IV),ZK (Im E ψ s.hp) ψ s.hp w x v->
 s.WE (H.map (·.1)) d x=some y->YB (IQ E true ψ s H w) w y v:=by
 intro d
 induction d with
 |zero=>
  intro x v y hx hy;exact base h Y7 x v y hx hy (by intro id off e;subst e;simp[St.WE]at hy)
 |succ d ih=>
  intro x v y hx hy
  by_cases hp:∃id off,x= .ptr id off
  ·obtain⟨id,off,rfl⟩:=hp;simp only[St.WE]at hy;split at hy
   ·cases hy
   ·rename_i O1;split at hy
    ·rename_i cs ho
     cases hl:Zm (St.WE s (H.map (·.1)) d) cs with
     |none=>rw[hl]at hy;cases hy
     |some l=>
      rw[hl]at hy;simp only[a4G,a5y]at hy;subst hy;obtain⟨b,k,o',g1,g2,rfl⟩:=ED hx;rw[ho]at g1;cases g1;obtain⟨b',c,e,h1,h2,h3,h4⟩:=h.YH id _ ho;rw[h1]at g2;cases g2;obtain⟨q1,q2⟩:=d7V hl
      refine .pt _ b off (fun i=>c.getD (off+i) undef) (fun i z hz=>?_) (fun i z hz=>?_)<;>rw[a9J]at hz<;>obtain⟨z0,hz0,QP⟩:=q2 _ z hz
      ·refine⟨TN h Y7 ho (by simpa using O1) (.inl ⟨_,h1⟩),IA h2 ?_⟩;rw[h3];exact(a7y.1 hz0).1
      ·exact ih z0 _ z (h4 _ z0 hz0) QP
    ·cases hy
  ·exact base h Y7 x v y hx hy (fun id off e=>hp ⟨id,off,e⟩)
where
 TN {E:En} {n:Nat} {ψ:Pl} {s:St} {a:Act} {w:World} (h:Z7 E n ψ s a w) {H:Hp} (Y7:∀id o,look H id=some o->look s.hp id=some o) {id:Nat} {o:Ob} (ho:look s.hp id=some o)
  (O1:(H.map (·.1)).contains id=false) {b:Nat} (hb:Z2 ψ id b):IQ E true ψ s H w b:=by
  refine⟨h.lt ho hb,?_⟩;rintro⟨id2,o2,h1,h2⟩;have:=h.inj id id2 _ o2 b ho (Y7 id2 o2 h1) hb h2;subst this;have:=Ep h1;rw[O1]at this;cases this
 base {E:En} {n:Nat} {ψ:Pl} {s:St} {a:Act} {w:World} (h:Z7 E n ψ s a w) {H:Hp} (Y7:∀id o,look H id=some o->look s.hp id=some o) {d:Nat} (x:AV) (v:Value) (y:IV)
  (hx:ZK (Im E ψ s.hp) ψ s.hp w x v) (hy:s.WE (H.map (·.1)) d x=some y) (hp:∀id off,x≠ .ptr id off):YB (IQ E true ψ s H w) w y v:=by
  have lm:∀b,b<w.heap.size->Im E ψ s.hp b->IQ E true ψ s H w b:=fun b hb hm=>d6V Y7 hb hm
  cases x with
  |iv x=>cases d<;>(simp only[St.WE,a5y]at hy;subst hy;cases hx with|iv _ _ hx=>exact hx.mono lm (fun _ _ _=>rfl))
  |nil sz=>cases d<;>(simp only[St.WE,a5y]at hy;subst hy;rw[Eu hx];exact .Wj _)
  |ptr id off=>exact absurd rfl (hp id off)
  |sl id sz lo len=>
   have hy2:(if(H.map (·.1)).contains id then none else match look s.hp id with
    |some (.list _ xs)=>some (.Z6 sz ((xs.drop lo).take len))
    |some (.ZI ZB xs none)=>some (.Z6 1 (((xs.map fun x=>[IV.Z6 ZB x]).drop lo).take len))
    | _=>none)=some y:=by cases d<;>exact hy
   clear hy
   rename _=>hy
   split at hy
   ·cases hy
   ·rename_i O1
    have O1:(H.map (·.1)).contains id=false:=by simpa using O1
    obtain⟨o,m,q1,SB,q2,Ya⟩:=Jg hx;rw[q1]at hy;have Uh:=h.YH id _ q1;split at hy
    ·rename_i xs heq;cases heq;simp only[Ob.dim,a5y,a6J]at SB;obtain⟨rfl,rfl⟩:=SB;cases hy
     rcases Ya with⟨p1,rfl,rfl,hv⟩|⟨b,k,cap,ad,p1,p2,p3,p4,hv⟩
     ·rw[hv,b2S];exact .Wj _
     ·rw[hv];exact d5C Uh lm (fun b' k' XB=>TN h Y7 q1 O1 (.inl ⟨_,XB⟩)) p1 p2 p3 q2
    ·rename_i ZB xs heq;cases heq;simp only[Ob.dim,a5y,a6J]at SB;obtain⟨rfl,rfl⟩:=SB;cases hy
     rcases Ya with⟨p1,rfl,rfl,hv⟩|⟨b,k,cap,ad,p1,p2,p3,p4,hv⟩
     ·rw[hv,b2S];exact .Wj _
     ·rw[hv];exact d5D Uh lm (fun b' XB=>TN h Y7 q1 O1 XB) p1 p2 p3 q2
    ·cases hy
  |mpr id=>
   have hy2:(if(H.map (·.1)).contains id then none else match look s.hp id with
    |some (.map sk g)=>some (.mp sk g)
    |some (.YJ sk sz g none)=>some (.mp sk fun k=>(g k).map fun xs=>[IV.Z6 sz xs])
    | _=>none)=some y:=by cases d<;>exact hy
   clear hy
   rename _=>hy
   split at hy
   ·cases hy
   ·rename_i O1
    have O1:(H.map (·.1)).contains id=false:=by simpa using O1
    cases hx with
    |mpr _ b k o q1 hb=>
     rw[q1]at hy;have Uh:=h.YH id _ q1;split at hy
     ·rename_i sk g heq;cases heq;cases hy;obtain⟨b',es,clock,g1,g2,g3,g4⟩:=Uh;rw[g1]at hb;cases hb;exact d1D g2 g3 g4 lm (TN h Y7 q1 O1 (.inl ⟨_,g1⟩))
     ·rename_i sk sz g heq;cases heq;cases hy;exact d4D Uh lm (fun b' XB=>TN h Y7 q1 O1 XB) hb
     ·cases hy
  | _=>cases d<;>simp[St.WE]at hy
theorem d9V(h:Z7 E n ψ s a w){H:Hp}(Y7:∀id o,look H id=some o->look s.hp id=some o){c:Z3}{v:Value}(hc:Xg (Im E ψ s.hp) ψ s.hp w c v)
 (hi:(c.EN s (H.map (·.1))).Xq (H.map (·.1))=true):Xg (IQ E true ψ s H w) ψ H w (c.EN s (H.map (·.1))) v:=by
 have hH:∀id o,(H.map (·.1)).contains id=true->look s.hp id=some o->look H id=some o:=by
  intro id o hc ho;obtain⟨o',XQ⟩:=b7S hc;rw[Y7 id o' XQ]at ho;cases ho;exact XQ
 cases hc with
 |val x v hx=>exact .val x v (hx.mono (fun b hb hm=>d6V Y7 hb hm) (fun _ _ _=>rfl))
 |ptr id off b k o ho hb=>
  simp only[Z3.EN]at hi⊢
  cases hy:s.WE (H.map (·.1)) 3 (.ptr id off)with
  |none=>rw[hy]at hi;exact .ptr id off b k o (hH id o hi ho) hb
  |some y=>exact .val _ _ (d8V h Y7 3 _ _ y (.ptr id off b k o ho hb) hy)
theorem d0W(h:Z7 E n ψ s a w){fr:Bool}{H:Hp}(Y7:∀id o,look H id=some o->look s.hp id=some o){x:AV}{v:Value}(hx:ZK (Im E ψ s.hp) ψ s.hp w x v)
 (hi:(s.arg1 fr (H.map (·.1)) x).YO (H.map (·.1))=true):ZK (IQ E fr ψ s H w) ψ H w (s.arg1 fr (H.map (·.1)) x) v:=by
 have hH:∀id o,(H.map (·.1)).contains id=true->look s.hp id=some o->look H id=some o:=by
  intro id o hc ho;obtain⟨o',XQ⟩:=b7S hc;rw[Y7 id o' XQ]at ho;cases ho;exact XQ
 have keep:∀{y},ZK (Im E ψ s.hp) ψ s.hp w y v->y.YO (H.map (·.1))=true->ZK (IQ E fr ψ s H w) ψ H w y v:=
  fun hy hi=>hy.restrict hi (fun b hb hm=>d6V Y7 hb hm) hH
 have other:∀{y},ZK (Im E ψ s.hp) ψ s.hp w y v->
  (if fr&& !(y.Xq (H.map (·.1)))then match s.WE (H.map (·.1)) 3 y with|some z=>AV.iv z|none=>y else y).YO (H.map (·.1))=true->
  ZK (IQ E fr ψ s H w) ψ H w (if fr&& !(y.Xq (H.map (·.1)))then match s.WE (H.map (·.1)) 3 y with|some z=>AV.iv z|none=>y else y) v:=by
  intro y hy pY;split at pY
  ·rename_i hc;rw[if_pos hc]
   have Sy:fr=true:=by cases fr<;>simp_all
   subst Sy
   cases hw:s.WE (H.map (·.1)) 3 y with
   |none=>rw[hw]at pY;exact keep hy pY
   |some z=>exact .iv _ _ (d8V h Y7 3 _ _ z hy hw)
  ·rename_i hc;rw[if_neg hc];exact keep hy pY
 cases x with
 |nil sz=>rw[Eu hx];exact .iv _ _ (.Wj _)
 |iv y=>exact keep hx hi
 |fn f b c=>
  simp only[St.arg1]at hi⊢
  by_cases hc:(fr&& !((AV.fn f b c).Xq (H.map (·.1))))=true
  ·rw[if_pos hc]at hi⊢
   have Sy:fr=true:=by cases fr<;>simp_all
   subst Sy;simp only[AV.YO,AV.Xq,a4C,a0E,a3E,forall_exists_index,and_imp,forall_apply_eq_imp_iff₂]at hi
   cases hx with
   |fn _ _ _ vf vc a1 a2 a3 a4=>
    refine .fn f _ _ vf vc (by simpa using a1) (by simpa using a2) (fun i q hq=>?_) (fun i q hq=>?_)<;>rw[a0C]at hq
    ·cases tO:b[i]? with
     |none=>rw[tO]at hq;cases hq
     |some q0=>rw[tO]at hq;cases hq;exact d9V h Y7 (a3 i q0 tO) (hi.1 q0 (a8y tO))
    ·cases tO:c[i]? with
     |none=>rw[tO]at hq;cases hq
     |some q0=>rw[tO]at hq;cases hq;exact d9V h Y7 (a4 i q0 tO) (hi.2 q0 (a8y tO))
  ·rw[if_neg hc]at hi⊢;exact keep hx hi
 |sl id sz lo len=>exact other hx hi
 |ptr id off=>exact other hx hi
 |ep id sz i off=>exact other hx hi
 |mpr id=>exact other hx hi
 |un=>exact other hx hi
 |junk=>exact other hx hi
 |agg cs=>exact other hx hi
 |Zp cs=>exact other hx hi
theorem d1W{ids:List Nat}{x:AV}(h:x.Xq ids=true):x.YO ids=true:=by
 cases x<;>simp_all[AV.YO,AV.Xq]
theorem d2W(h:Z7 E n ψ s a w){fr:Bool}{H:Hp}(Y7:∀id o,look H id=some o->look s.hp id=some o){x:AV}{v:Value}(hx:ZK (Im E ψ s.hp) ψ s.hp w x v)
 (hi:(s.arg fr (H.map (·.1)) x).YO (H.map (·.1))=true):ZK (IQ E fr ψ s H w) ψ H w (s.arg fr (H.map (·.1)) x) v:=by
 cases x with
 |agg cs=>
  simp only[St.arg,AV.YO,List.all_map,a0E]at hi⊢;obtain⟨vs,h1,h2,rfl⟩:=qD hx
  refine .agg _ _ (by simpa using h1) fun i c hc=>?_
  rw[a0C]at hc
  cases Wx:cs[i]? with
  |none=>rw[Wx]at hc;cases hc
  |some c0=>
   rw[Wx]at hc;cases hc;exact d0W h Y7 (h2 i c0 Wx) (d1W (hi c0 (a8y Wx)))
 | _=>exact d0W h Y7 hx hi
theorem d3W{A:Nat->Prop}{H:Hp}{c:Z3}{v:Value}(h:Xg A ψ H w c v):ZK A ψ H w c.av v:=by
 cases h with
 |ptr id off b k o ho hb=>exact .ptr id off b k o ho hb
 |val x v h1=>exact .iv _ _ h1
theorem d4W{o:Oper}{f:FuncId}{pre post:List Z3}{ops:List Operand}{vs:List Value}{y:Option Operand}(h:Z7 E n ψ s a w)(hd:d<1000)
 (hr:(execOp a.eval o).run P w= .ok (.enter f vs.toArray) w)
 (hvs:∀ψ s1,Z7 E n ψ s1 a w->(match y with|some y=>s1.ev y= .fn f pre post|none=>True)->(s1.args pre ops post).length=vs.length/\∀i x,(s1.args pre ops post)[i]? =some x->ZK (Im E ψ s1.hp) ψ s1.hp w x (vs.getD i undef))
 (hk:LC P d f pre ops post y s K):X6 P E n o a w K:=by
 obtain⟨s0,hle,fr,H,R,s1,EA,hy1,as1,has,hc,hk⟩:=hk;obtain⟨g9b,g0c⟩:=c4L has;obtain⟨ψ,h⟩:=hle E n a w ⟨_,h⟩
 have h1:Z7 E n ψ s1 a w:=by
  rw[EA];refine Z7.drop ?_ hd;cases fr
  ·exact h.Y9 _
  ·exact h
 obtain⟨l1,l2⟩:=hvs ψ s1 h1 hy1;intro K' Q hK;unfold ND;rw[hr];simp only[Fg]
 have Wk:=hc.spec.2 (IQ E fr ψ s1 H w) ψ w vs (fun b hb=>hb.1)
  (fun id o ho=>(h1.YH id o (hc.sub id o ho)).restrict (hc.own id o ho) (fun b hb hm=>d6V hc.sub hb hm) (fun id o EL ho=>by
   obtain⟨o',XQ⟩:=b7S EL
   rw[hc.sub id o' XQ]at ho;cases ho;exact XQ))
  (fun id XP o o' b h2 h3 h4 h5=>h1.inj id XP o o' b (hc.sub id o h2) (hc.sub XP o' h3) h4 h5)
  (fun id o b h2 h3=>h1.Y0 id o b (hc.sub id o h2) h3)
  (fun b hb hl=>by
   cases fr
   ·exact hl.2.2 (by obtain⟨id,o,h2,h3⟩:=hb;exact⟨id,o,hc.sub id o h2,h3⟩)
   ·exact hl.2 hb)
  (by rw[g9b];exact l1.symm)
  (fun i x hx=>by
   obtain⟨y,hi,e⟩:=g0c i x hx
   rcases e with rfl|⟨sz,ZB,rfl,rfl⟩
   ·exact d2W h1 hc.sub (l2 i y hi) (a0E.1 hc.refs _ (a8y hx))
   ·have:=l2 i _ hi;generalize vs.getD i undef=v at this;cases this
    exact .nil ZB)
 refine Wk.mono ?_;rintro e w' ⟨v,ZF,res,H',hR,rfl,k1,k2,k3,k4,k5,k6,kS,k7,k8⟩;obtain⟨Zn,g1,g2⟩:=h1.called (hc.sh hR) (A:=IQ E fr ψ s1 H w) (fun hf b hb=>by subst hf;exact hb.2) k1 k2 k3 k4 k5 k6 kS k7 k8;exact⟨v,rfl,hK (s1.join H') res Zn v w' (hk res H' hR) g1 g2⟩
theorem d5W{o:Oper}{l:Nat}{ops:List Operand}{vs:List Value}(h:Z7 E n ψ s a w)
 (hr:(execOp a.eval o).run P w=(Instr.yield l vs.toArray).run P w)
 (hvs:∀ψ s1,Z7 E n ψ s1 a w->(ops.map s1.ev).length=vs.length/\∀i x,(ops.map s1.ev)[i]? =some x->ZK (Im E ψ s1.hp) ψ s1.hp w x (vs.getD i undef))
 (hk:c1L P l ops s K):X6 P E n o a w K:=by
 obtain⟨s1,g,Z,b,Z',xs,hle,hg,⟨Oc,UN⟩,hy,hk⟩:=hk;obtain⟨ψ,h1⟩:=hle E n a w ⟨_,h⟩;obtain⟨l1,l2⟩:=hvs ψ s1 h1;rw[Oc]at l1 l2;obtain⟨o1,o2,_,_⟩:=h1.YH g _ hg
 have hB:∀k,ψ.sub g k->k<w.heap.size:=fun k hk=>(h1.Y0 g _ k hg hk).2.1
 have hBH:∀k,ψ.sub g k->ZD ψ s1.hp k:=fun k hk=>⟨g,_,hg, .inr hk⟩
 have Re:Oi Z (fun k=>k<w.heap.size/\Im E ψ s1.hp k) (ψ.sub g) w:=o2.mono (fun b hb h=>⟨hb,h⟩) (fun _ h=>h) (fun _ _ _=>rfl) (fun _ _=>rfl)
 obtain⟨fn,tmps,assign,body,XC,WN⟩:=hy (fun k=>k<w.heap.size/\Im E ψ s1.hp k) (ψ.sub g) w vs (fun k hk=>hk.1) hB (fun k hk hi=>hi.2.2 (hBH k hk)) Re (by simpa using l1.symm)
  (fun i x hx=>(c9K (a0E.1 UN x (a8y hx)) (l2 i x hx)).mono (fun b hb h=>⟨hb,h⟩) (fun _ _ _=>rfl) (fun id o ho=>by cases ho))
 intro K' Q hK;unfold ND;rw[hr,XC];simp only[Fg];intro m;refine(WN m).mono ?_;rintro e w' ⟨B',rfl,k1,k2,k3,k4,k5,k6⟩;refine⟨_,rfl,?_⟩
 have hO:∀{ψ:Pl} {Z:GZ} {b:Nat},ZD ψ [(g,Ob.gh Z [] [])] b↔Z2 ψ g b:=by
  intro ψ Z b;constructor
  ·rintro⟨id,o,ho,hb⟩;simp only[look]at ho;split at ho
   ·rename_i e;subst e;exact hb
   ·cases ho
  ·intro hb;exact⟨g, .gh Z [] [],by simp[look],hb⟩
 let ZF:Pl:=⟨ψ.main,fun id b=>if id=g then B' b else ψ.sub id b⟩
 have lk:∀{o:Ob} {id:Nat} {q:Ob},look [(g,o)] id=some q->id=g/\q=o:=by
  intro o id q h;simp only[look]at h;split at h
  ·rename_i e;exact⟨e.symm,by cases h;rfl⟩
  ·cases h
 have Io:∀{b},Z2 ZF g b↔B' b:=by
  intro b;constructor
  ·rintro(⟨k,h⟩|h)
   ·exact absurd (show ψ g=some (b,k)from h) (by rw[o1];simp)
   ·simpa[ZF]using h
  ·intro h;exact .inr (by simpa[ZF]using h)
 have qM:∀{b},Z2 ψ g b↔ψ.sub g b:=by
  intro b;constructor
  ·rintro(⟨k,h⟩|h)
   ·rw[o1]at h;cases h
   ·exact h
  ·intro h;exact .inr h
 obtain⟨Zn,g1,g2⟩:=h1.called (H:=[(g, .gh Z [] [])]) (H':=[(g, .gh Z' [] [])]) (fr:=false) (res:= .iv (.v (.bool b))) (v:= .bool b) (ZF:=ZF) (A:=fun k=>k<w.heap.size/\Im E ψ s1.hp k)
  ⟨fun id o ho=>by obtain⟨_,rfl⟩:=lk ho;rfl,fun id o ho=>by obtain⟨_,rfl⟩:=lk ho;rfl,fun id o ho=>by obtain⟨rfl,rfl⟩:=lk ho;exact hg,
   fun id o ho=>by obtain⟨rfl,rfl⟩:=lk ho;exact⟨.gh Z' [] [],by simp[look],Ob.le_none rfl⟩,fun id o ho hn=>by obtain⟨rfl,rfl⟩:=lk ho;simp[look]at hn⟩
  (fun _ k hk=>hk.2) (fun k hk hn=>k1 k hk fun hb=>hn (hO.2 (qM.2 hb))) k2 k3 (fun id o ho=>rfl)
  (fun id o k ho hk=>by
   obtain⟨rfl,rfl⟩:=lk ho
   rcases k4 k (Io.1 hk)with h|h
   ·exact .inl ⟨.gh Z [] [],by simp[look],qM.2 h⟩
   ·exact .inr h)
  (fun id XP o o' k ho XQ _ _=>by obtain⟨rfl,rfl⟩:=lk ho;obtain⟨rfl,rfl⟩:=lk XQ;rfl)
  (fun id o k ho hk=>by
   obtain⟨rfl,rfl⟩:=lk ho
   exact⟨rfl,k5 k (Io.1 (.inr hk)),fun q=>by show ψ id≠_;rw[o1];simp⟩)
  (fun id o ho=>by
   obtain⟨rfl,rfl⟩:=lk ho;refine⟨o1,k6.mono (fun k _ hk=>⟨?_,fun hh=>hk.2 (Io.1 (hO.1 hh))⟩) (fun k hk=>by simpa[ZF]using hk) (fun _ _ _=>rfl) (fun _ _=>rfl),rfl,by simp⟩
   rcases hk.1 with h|h
   ·exact .inl ⟨rfl,h⟩
   ·exact .inr h)
  (.iv _ _ (.v _ rfl))
 exact hK _ _ _ _ _ hk g1 g2
theorem d6W{f:FuncId}(h:XI P f=true)(vs:Array Value)(w:World):(callFunc f vs).run P w= .ok (.enter f vs) w:=by
 unfold XI at h
 cases hf:P.funcs[f]? with
 |none=>rw[hf]at h;cases h
 |some fn=>
  rw[hf]at h;simp only[a4C,bne_iff_ne,ne_eq]at h;simp only[callFunc,Sem.run_bind,run_program,Result.andThen_ok,hf]
  have h1:(fn.name== "runtime.NumGoroutine")=false:=by simpa using h.1
  have h2:fn.body.isNone=false:=by cases hb:fn.body<;>simp_all
  simp[h1,h2]
theorem d7W(h:Z7 E n ψ s a w)(ops:List Operand):∀i x,(ops.map s.ev)[i]? =some x->ZK (Im E ψ s.hp) ψ s.hp w x ((ops.map a.eval).getD i undef):=by
 intro i x hx;rw[a0C]at hx
 cases hi:ops[i]? with
 |none=>rw[hi]at hx;cases hx
 |some o=>rw[hi]at hx;cases hx;simp only[a7V,a0C,hi,a4G,a2L];exact h.ev o
theorem d8W{f:FuncId}{args:Array Operand}{ts:Array TypeId}(hf:XI P f=true)(hd:d<1000)(h:Z7 E n ψ s a w)(hk:ZP P d s K (.call f args.toList)):
 X6 P E n ⟨dst, .call ⟨.value (.func f),args,ts⟩,ty,pos,af,g⟩ a w K:=by
 simp only[ZP]at hk;refine d4W (vs:=args.toList.map a.eval) h hd ?_ (fun ψ s1 h1 _=>⟨by simp[St.args],by simpa[St.args]using d7W h1 args.toList⟩) hk
 have:(args.toList.map a.eval).toArray=args.map a.eval:=by apply b3n;simp
 rw[this];simp only[execOp,resolve,Act.eval,Deferred.ofValue,Sem.run_bind,Sem.run_pure,Result.andThen_ok,invoke]
 have e2:(#[]++args.map a.eval)++ #[]=args.map a.eval:=by simp
 exact(congrArg (fun z=>(callFunc f z).run P w) e2).trans (d6W hf _ w)
theorem d9W{A:Nat->Prop}{H:Hp}{l:List Z3}{vs:Array Value}(hl:vs.size=l.length)(h:∀i c,l[i]? =some c->Xg A ψ H w c (vs.getD i undef)):
 (l.map Z3.av).length=vs.toList.length/\∀i x,(l.map Z3.av)[i]? =some x->ZK A ψ H w x (vs.toList.getD i undef):=by
 refine⟨by simp[hl],fun i x hx=>?_⟩;rw[a0C]at hx
 cases hi:l[i]? with
 |none=>rw[hi]at hx;cases hx
 |some c=>rw[hi]at hx;cases hx;rw[SK];exact d3W (h i c hi)
theorem d0X{A:Nat->Prop}{H:Hp}{l1 l2:List AV}{v1 v2:List Value}(h1:l1.length=v1.length/\∀i x,l1[i]? =some x->ZK A ψ H w x (v1.getD i undef))
 (h2:l2.length=v2.length/\∀i x,l2[i]? =some x->ZK A ψ H w x (v2.getD i undef)):(l1++l2).length=(v1++v2).length/\∀i x,(l1++l2)[i]? =some x->ZK A ψ H w x ((v1++v2).getD i undef):=by
 refine⟨by simp[h1.1,h2.1],fun i x hx=>?_⟩
 by_cases hi:i<l1.length
 ·rw[a1N hi]at hx;have:=h1.2 i x hx;rw[show(v1++v2).getD i undef=v1.getD i undef from by simp only[a7V];rw[a1N (by omega)]]
  exact this
 ·rw[a5V (by omega)]at hx;have:=h2.2 _ x hx;rw[show(v1++v2).getD i undef=v2.getD (i-l1.length) undef from by simp only[a7V];rw[a5V (by omega),h1.1]]
  exact this
theorem d1X{x:Operand}{args:Array Operand}{ts:Array TypeId}(hd:d<1000)(h:Z7 E n ψ s a w)
 (hk:ZP P d s K (.Yz x args.toList)):X6 P E n ⟨dst, .call ⟨.value x,args,ts⟩,ty,pos,af,g⟩ a w K:=by
 simp only[ZP]at hk;split at hk
 ·rename_i f first caps hx;obtain⟨ZY,hk⟩:=hk;have tN:=h.ev x;rw[hx]at tN
  obtain⟨vf,vc,hv⟩:∃vf vc,a.eval x= .func (.func f) vf vc:=by
   generalize a.eval x=vx at tN
   cases tN with|fn _ _ _ vf vc=>exact⟨vf,vc,rfl⟩
  refine d4W (vs:=vf.toList++args.toList.map a.eval++vc.toList) h hd ?_ (fun ψ s1 h1 hy=>?_) hk
  ·have e1:(vf.toList++args.toList.map a.eval++vc.toList).toArray=(vf++args.map a.eval)++vc:=by apply b3n;simp
   rw[e1];simp only[execOp,resolve,hv,Deferred.ofValue,Sem.run_bind,Sem.run_pure,Result.andThen_ok,invoke];exact d6W ZY _ w
  ·have f2t:=h1.ev x;simp only at hy;rw[hy,hv]at f2t
   cases f2t with
   |fn _ _ _ _ _ a1 a2 a3 a4=>
    exact d0X (d0X (d9W a1 a3) ⟨by simp,d7W h1 args.toList⟩) (d9W a2 a4)
 ·rename_i l vf vc hx;obtain⟨rfl,rfl,hk⟩:=hk;have tN:=h.ev x;rw[hx]at tN;have hv:a.eval x= .func (.yield l) #[] #[]:=VN tN;refine d5W (vs:=args.toList.map a.eval) h ?_ (fun ψ s1 h1=>⟨by simp,d7W h1 args.toList⟩) hk
  have e1:(args.toList.map a.eval).toArray=args.map a.eval:=by apply b3n;simp
  rw[e1];simp only[execOp,resolve,hv,Deferred.ofValue,Sem.run_bind,Sem.run_pure,Result.andThen_ok,invoke]
  have e2:(#[]++args.map a.eval)=args.map a.eval:=by simp
  first
  |rfl
  |rw[e2]
 ·rename_i f vf vc hx;obtain⟨rfl,rfl,hf,hk⟩:=hk;have tN:=h.ev x;rw[hx]at tN;have hv:a.eval x= .func (.func f) #[] #[]:=VN tN;refine d4W (vs:=args.toList.map a.eval) h hd ?_ (fun ψ s1 h1 _=>⟨by simp[St.args],by simpa[St.args]using d7W h1 args.toList⟩) hk
  have:(args.toList.map a.eval).toArray=args.map a.eval:=by apply b3n;simp
  rw[this];simp only[execOp,resolve,hv,Deferred.ofValue,Sem.run_bind,Sem.run_pure,Result.andThen_ok,invoke]
  have e2:(#[]++args.map a.eval)++ #[]=args.map a.eval:=by simp
  exact(congrArg (fun z=>(callFunc f z).run P w) e2).trans (d6W hf _ w)
 ·exact hk.elim
end
end Go.Vm
end
