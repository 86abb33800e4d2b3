/- Contracts of functions of the program, and what they lean on. Conditions: those of each theorem. -/
import Derived.Test.YthkdpdpgmhmgoaaGreatSpMA
import Derived.MapKept
import Derived.Laws.MakeOwn
import Derived.Maps.RangeRun
import Derived.Scope
import Derived.ScopeJumps
import Derived.Orders
import Derived.Stop.Looks

set_option linter.unusedVariables false
set_option linter.unusedSimpArgs false
set_option maxHeartbeats 64000000
set_option maxRecDepth 100000
open Array renaming ext'->b1p,getElem?_toList->a1E,getD_eq_getD_getElem?->a3E,toList_push->a8U,getElem?_modify->a5N,eraseIdxIfInBounds->c4u,toList_eraseIdx->c6T,getElem?_eq_some_iff->c8l,getElem?_setIfInBounds_ne->a6S,eq_empty_of_size_eq_zero->b9b,mem_filter->d0l,contains_eq_mem->c5U,getElem?_eq_none->b0k,all_eq_true'->d3i,replicate->c6w,getElem?_eq_getElem->a3N
open Bool renaming and_eq_true->a3C,false_eq_true->a1N,not_eq_true'->b1K,or_eq_true->b6w
open Classical renaming choose->b7G,choose_spec->b2K
open Eq renaming symm->d0x
open Int renaming le_refl->d3t
open List renaming mapM_cons->a0Q,map_cons->a0I,drop_zero->c4Q,take_of_length_le->a0z,getElem?_map->a1C,mem_cons->a5E,append_assoc->b9Z,eq_nil_of_length_eq_zero->a2S,getD_cons_zero->c4B,nodup_cons->b2H,mem_map->a0E,mem_of_getElem?->a6y,all_eq_true->a8C,mem_append->a9E,mem_singleton->a1B,map_append->a5M,nodup_append->b6n,map_singleton->c5B,ext_getElem?->b6r,mem_of_mem_eraseIdx->c5Q,eraseIdx_sublist->c8A,getElem?_of_mem->a9B,mem_append_left->a7N,mem_eraseIdx_iff_getElem?->c2I,pairwise_iff_getElem->b5K,getElem?_eq_some_iff->a5y,getD_eq_getElem?_getD->a7S,getElem?_cons_succ->a5J,replicate->a2N,length_replicate->c3B,eq_of_mem_replicate->c6u,getElem?_replicate->c1S,getElem?_eq_getElem->a4G,getD->a7V,getElem?_set->c9b,getElem?_toArray->c7y,getElem?_cons_zero->a0F,getElem?_append_left->a9L,getElem?_append_right->a7U,mem_cons_of_mem->a9C,mem_cons_self->a4E,range->a7I,isEmpty_iff->c7u,contains_iff_mem->a6M,mapM_nil->d1Q
open List.Sublist renaming map->c6R
open List.cons renaming injEq->a4U
open Nat renaming add_assoc->b5O,add_comm->c4G,zero_add->b5D,le_refl->a8F,eq_zero_or_pos->b0q,mul_le_mul_right->a0G,add_mul->a4N,add_mul_mod_self_right->c9P,mod_eq_of_lt->d3x,mul_one->c0Q,add_zero->b1H,le_trans->a0N,le_of_not_lt->d6x,lt_of_lt_of_le->a6R
open Option renaming map_eq_some_iff->a9R,bind_some->a9J,map_some->a8H,pure_def->a2I,bind_eq_bind->a5V,bind_eq_some_iff->b6v,getD_some->a1J,isSome_iff_exists->c3t
open Option.some renaming injEq->a3y,inj->c8c
open Prod.mk renaming injEq->a2L

section
namespace Go.Vm
def e2u:Kd->TypeDesc
 | .b=> .bool
 | .i j=> .int j
 | .s=> .string
theorem e3u(s t:ByteArray):(s==t)=true↔s=t:=by
 constructor
 ·intro h;obtain⟨a⟩:=s;obtain⟨b⟩:=t;have h:(a==b)=true:=h;rw[eq_of_beq h]
 ·rintro rfl;obtain⟨a⟩:=s
  show(a==a)=true
  simp
theorem e4u{v:Value}{k:Kd}(h:Y0 v=some k):v.cells= #[v]/\v.oneCell'=true/\(∀cs,v≠ .agg cs):=by
 cases v<;>simp[Y0]at h<;>refine⟨rfl,rfl,by simp⟩
theorem FN{v:Value}{ag:Bool}{ks:List Kd}(h:Xh v=some (ag,ks)):
 (∃cs:Array Value,v= .agg cs/\ag=true/\cs.toList.mapM Y0=some ks/\X0 v=cs.toList)\/(∃k,ag=false/\ks=[k]/\Y0 v=some k/\X0 v=[v]):=by
 cases v with
 |agg cs=>
  left;simp only[Xh,a9R,a2L]at h;obtain⟨l,h1,rfl,rfl⟩:=h;exact⟨cs,rfl,rfl,h1,rfl⟩
 | _=>
  right;simp only[Xh,a9R,a2L]at h;obtain⟨k,h1,rfl,rfl⟩:=h;exact⟨k,rfl,rfl,h1,by simp[X0,(e4u h1).1]⟩
theorem e6u{x y:Value}{ag:Bool}{ks:List Kd}(hx:Xh x=some (ag,ks))(hy:Xh y=some (ag,ks))(h:X0 x=X0 y):x=y:=by
 rcases FN hx with⟨cs,rfl,h1,h2,h3⟩|⟨k,h1,h2,h3,h4⟩
 ·rcases FN hy with⟨ds,rfl,g1,g2,g3⟩|⟨k',g1,g2,g3,g4⟩
  ·rw[h3,g3]at h
   congr 1
   exact b1p h
  ·rw[h1]at g1;cases g1
 ·rcases FN hy with⟨ds,rfl,g1,g2,g3⟩|⟨k',g1,g2,g3,g4⟩
  ·rw[h1]at g1;cases g1
  ·rw[h4,g4]at h;simpa using h
theorem e7u{k:Kd}{u v:Value}(hu:Y0 u=some k)(hv:Y0 v=some k):∃b,Hf k u v=some b/\(b=true↔u=v):=by
 cases u<;>simp only[Y0]at hu<;>(first|(cases hu;done)|skip)<;>cases hu<;>cases v<;>simp only[Y0]at hv<;>(first|(cases hv;done)|skip)
 ·exact⟨_,rfl,by simp⟩
 ·cases hv;exact⟨_,by simp only[Hf,if_true];rfl,by simp⟩
 ·exact⟨_,rfl,by rw[e3u];simp⟩
theorem e8u:∀(ks:List Kd) (l m:List Value),l.mapM Y0=some ks->m.mapM Y0=some ks->
 ∃b,TY ks (l.map fun v=> .iv (.v v)) (m.map fun v=> .iv (.v v))=some b/\(b=true↔l=m):=by
 intro ks
 induction ks with
 |nil=>
  intro l m hl hm
  cases l with
  |nil=>cases m with
   |nil=>exact⟨true,rfl,by simp⟩
   |cons y m=>rw[a0Q]at hm;cases hy:Y0 y<;>simp[hy]at hm;cases hq:m.mapM Y0<;>simp[hq]at hm
  |cons x l=>rw[a0Q]at hl;cases hx:Y0 x<;>simp[hx]at hl;cases hq:l.mapM Y0<;>simp[hq]at hl
 |cons k ks ih=>
  intro l m hl hm
  have dest:∀l:List Value,l.mapM Y0=some (k::ks)->∃x r,l=x::r/\Y0 x=some k/\r.mapM Y0=some ks:=by
   intro l h
   cases l with
   |nil=>simp at h
   |cons x r=>
    rw[a0Q]at h
    cases hx:Y0 x with
    |none=>simp[hx]at h
    |some kx=>
     cases hq:r.mapM Y0 with
     |none=>simp[hx,hq]at h
     |some q=>
      simp[hx,hq]at h;obtain⟨rfl,rfl⟩:=h;exact⟨x,r,rfl,hx,hq⟩
  obtain⟨x,r,rfl,hx,hr⟩:=dest l hl;obtain⟨y,q,rfl,hy,hq⟩:=dest m hm;obtain⟨b,h1,h2⟩:=e7u hx hy;obtain⟨c,h3,h4⟩:=ih r q hr hq;refine⟨b&&c,?_,?_⟩
  ·simp only[a0I,TY,h1,a9J,h3,a8H]
  ·rw[a3C,h2,h4,a4U]
section
variable{P:Program}{w:World}
theorem e9u{d:Nat}{t:TypeId}{ks:List Kd}(h:RL P (d+1) t=some ks)(hg:XT P t=false):
 ∃k,ks=[k]/\P.underlying t=some (e2u k):=by
 unfold RL at h;split at h
 ·rename_i hu;exact⟨.b,by simpa using h.symm,hu⟩
 ·rename_i k hu;exact⟨.i k,by simpa using h.symm,hu⟩
 ·rename_i hu;exact⟨.s,by simpa using h.symm,hu⟩
 ·rename_i fs hu;unfold XT at hg;rw[hu]at hg;cases hg
 ·cases h
theorem e0v{l:List Value}{ks:List Kd}(h:l.mapM Y0=some ks):l.length=ks.length:=by
 induction l generalizing ks with
 |nil=>simp at h;subst h;rfl
 |cons x r ih=>
  rw[a0Q]at h
  cases hx:Y0 x with
  |none=>simp[hx]at h
  |some kx=>
   cases hq:r.mapM Y0 with
   |none=>simp[hx,hq]at h
   |some q=>
    simp[hx,hq]at h;subst h;simp[ih hq]
theorem e1v{t:TypeId}{ks:List Kd}(hk:RL P 20 t=some ks)(hi:XY P t=some ks.length){x y:Value}(hx:Xh x=some (XT P t,ks))(hy:Xh y=some (XT P t,ks)):
 ∃b,(Op.equal t x y).run P w= .ok b w/\(b=true↔x=y):=by
 rcases FN hx with⟨us,rfl,h1,h2,h3⟩|⟨k,h1,h2,h3,h4⟩
 ·rcases FN hy with⟨vs,rfl,g1,g2,g3⟩|⟨k',g1,g2,g3,g4⟩
  ·obtain⟨b,e1,e2⟩:=e8u ks _ _ h2 g2;refine⟨b,?_,?_⟩
   ·have hl:=e0v h2;have hm:=e0v g2
    have key:=(a7x (w:=w) 20 t ks hk 10000 (by omega) us vs (us.toList.map fun v=> .iv (.v v)) (vs.toList.map fun v=> .iv (.v v)) 0 b ⟨by simp,fun i x hx=>?_⟩ ⟨by simp,fun i x hx=>?_⟩ (by simp at hl⊢;omega) (by simp at hm⊢;omega) (by
     rw[c4Q,c4Q,a0z (by simp at hl⊢;omega),a0z (by simp at hm⊢;omega)];exact e1)).1 h1 hi
    ·have x1:us.extract 0 (0+ks.length)=us:=by rw[<-hl];simp
     have x2:vs.extract 0 (0+ks.length)=vs:=by rw[<-hm];simp
     rw[x1,x2]at key;exact key
    ·rw[a1C]at hx
     cases hq:us.toList[i]? with
     |none=>rw[hq]at hx;cases hx
     |some z=>rw[hq]at hx;cases hx;rw[a1E]at hq;simp[a3E,hq]
    ·rw[a1C]at hx
     cases hq:vs.toList[i]? with
     |none=>rw[hq]at hx;cases hx
     |some z=>rw[hq]at hx;cases hx;rw[a1E]at hq;simp[a3E,hq]
   ·rw[e2];constructor
    ·intro e;congr 1;exact b1p e
    ·intro e;cases e;rfl
  ·rw[h1]at g1;cases g1
 ·rcases FN hy with⟨vs,rfl,g1,g2,g3⟩|⟨k',g1,g2,g3,g4⟩
  ·rw[h1]at g1;cases g1
  ·obtain⟨k0,M0,hu⟩:=e9u hk h1;rw[h2]at M0;simp only[a4U,and_true]at M0;subst M0;rw[h2]at g2;simp only[a4U,and_true]at g2;subst g2;obtain⟨b,e1,e2⟩:=e7u h3 g3;exact⟨b,a5x (d:=9999) (by rw[hu];cases k<;>rfl) e1 w,e2⟩
theorem e2v{t:TypeId}{ks:List Kd}(hk:RL P 20 t=some ks)(hi:XY P t=some ks.length){x:Value}(hx:Xh x=some (XT P t,ks)):
 ∀(es:List MapEntry) (i:Nat),(∀e∈es,Xh e.key=some (XT P t,ks))->
  ((Instr.findAsking t x es i).run P w= .ok none w/\∀e∈es,e.key≠x)∨
  ∃j e,(Instr.findAsking t x es i).run P w= .ok (some (i+j,e.val)) w/\es[j]? =some e/\e.key=x
 | [],i,_=> .inl ⟨by simp[Instr.findAsking],by simp⟩
 |e::es,i,Zq=>by
  obtain⟨r,hr,DI⟩:=e1v (w:=w) hk hi hx (Zq e (by simp));cases r
  ·have ZV:e.key≠x:=fun h=>by have:=DI.2 h.symm;cases this
   rcases e2v hk hi hx es (i+1) (fun y hy=>Zq y (by simp[hy]))with⟨h1,h2⟩|⟨j,e',h1,h2,h3⟩
   ·left;refine⟨by simp[Instr.findAsking,hr,h1],fun y hy=>?_⟩
    rcases a5E.1 hy with rfl|hy
    ·exact ZV
    ·exact h2 y hy
   ·right;exact⟨j+1,e',by simp[Instr.findAsking,hr,h1,b5O,c4G 1 j],by simpa using h2,h3⟩
  ·right;exact⟨0,e,by simp[Instr.findAsking,hr],rfl,(DI.1 rfl).symm⟩
theorem e3v{k:Kd}{u v:Value}(hu:Y0 u=some k)(hv:Y0 v=some k):∃b,Instr.sameNow (e2u k) u v=some b/\(b=true↔v=u):=by
 cases u<;>simp only[Y0]at hu<;>(first|(cases hu;done)|skip)<;>cases hu<;>cases v<;>simp only[Y0]at hv<;>(first|(cases hv;done)|skip)
 ·exact⟨_,rfl,by rw[beq_iff_eq,Value.bool.injEq];exact⟨d0x,d0x⟩⟩
 ·cases hv;exact⟨_,by simp only[e2u,Instr.sameNow,if_true];rfl,by rw[beq_iff_eq,Value.int.injEq];exact⟨fun h=>⟨rfl,h.symm⟩,fun h=>h.2.symm⟩⟩
 ·exact⟨_,rfl,by rw[e3u,Value.string.injEq];exact⟨d0x,d0x⟩⟩
theorem e4v{k:Kd}{x:Value}(hx:Y0 x=some k):
 ∀(es:List MapEntry) (i:Nat),(∀e∈es,Y0 e.key=some k)->
  (Instr.findNow (e2u k) x es i=some none/\∀e∈es,e.key≠x)∨
  ∃j e,Instr.findNow (e2u k) x es i=some (some (i+j,e.val))/\es[j]? =some e/\e.key=x
 | [],i,_=> .inl ⟨by simp[Instr.findNow],by simp⟩
 |e::es,i,Zq=>by
  obtain⟨r,hr,DI⟩:=e3v hx (Zq e (by simp));cases r
  ·have ZV:e.key≠x:=fun h=>by have:=DI.2 h;cases this
   rcases e4v hx es (i+1) (fun y hy=>Zq y (by simp[hy]))with⟨h1,h2⟩|⟨j,e',h1,h2,h3⟩
   ·left;refine⟨by simp only[Instr.findNow,hr];exact h1,fun y hy=>?_⟩
    rcases a5E.1 hy with rfl|hy
    ·exact ZV
    ·exact h2 y hy
   ·right;exact⟨j+1,e',by simp only[Instr.findNow,hr];rw[h1,b5O,c4G 1 j],by simpa using h2,h3⟩
  ·right;exact⟨0,e,by simp only[Instr.findNow,hr];rfl,rfl,DI.1 rfl⟩
theorem oy{t:TypeId}{ks:List Kd}(hk:RL P 20 t=some ks)(hi:XY P t=some ks.length){x:Value}(hx:Xh x=some (XT P t,ks))
 (es:List MapEntry) (Zq:∀e∈es,Xh e.key=some (XT P t,ks)):
 ((
  Instr.findKey t x es).run P w= .ok none w/\∀e∈es,e.key≠x)∨
  ∃j e,(Instr.findKey t x es).run P w= .ok (some (j,e.val)) w/\es[j]? =some e/\e.key=x:=by
 by_cases hg:XT P t=true
 ·have hd:∃dd,P.underlying t=some dd/\(∀y z,Instr.sameNow dd y z=none):=by
   unfold XT at hg;split at hg
   ·rename_i hu;exact⟨_,hu,fun y z=>by simp[Instr.sameNow]⟩
   ·rename_i hu;exact⟨_,hu,fun y z=>by simp[Instr.sameNow]⟩
   ·cases hg
  obtain⟨dd,hu,hs⟩:=hd
  have e:(Instr.findKey t x es).run P w=(Instr.findAsking t x es).run P w:=by
   cases es with
   |nil=>simp[Instr.findKey,Vm.run_underlying w hu,Instr.findNow,Instr.findAsking]
   |cons e es=>simp[Instr.findKey,Vm.run_underlying w hu,Instr.findNow,hs]
  rw[e]
  rcases e2v (w:=w) hk hi hx es 0 Zq with h|⟨j,e',h1,h2,h3⟩
  ·exact .inl h
  ·exact .inr ⟨j,e',by simpa using h1,h2,h3⟩
 ·have hg:XT P t=false:=by simpa using hg
  obtain⟨k,rfl,hu⟩:=e9u hk hg
  have kd:∀v,Xh v=some (XT P t,[k])->Y0 v=some k:=by
   intro v hv;rw[hg]at hv
   rcases FN hv with⟨cs,_,h1,_⟩|⟨k',_,h2,h3,_⟩
   ·cases h1
   ·simp only[a4U,and_true]at h2;subst h2;exact h3
  have e:∀r,Instr.findNow (e2u k) x es 0=some r->(Instr.findKey t x es).run P w= .ok r w:=by
   intro r hr;simp only[Instr.findKey,Sem.run_bind,Vm.run_underlying w hu,Result.andThen_ok,hr,Sem.run_pure]
  rcases e4v (kd x hx) es 0 (fun e he=>kd _ (Zq e he))with⟨h1,h2⟩|⟨j,e',h1,h2,h3⟩
  ·exact .inl ⟨e _ h1,h2⟩
  ·exact .inr ⟨j,e',by rw[e _ h1,b5D],h2,h3⟩
end
section
variable{P:Program}{w:World}
theorem c8M(
 em:Bool):∀(d:Nat) (t:TypeId) (ks:List Kd),RL P d t=some ks->∀(D:Nat),d<=D->∀(us:Array Value) (o:Nat),o+ks.length<=us.size->
 (XT P t=true->XY P t=some ks.length->(Instr.checkKey em D t (.agg (us.extract o (o+ks.length)))).run P w= .ok () w)∧
 (XY P t=some ks.length->∃X,(part t us o).run P w= .ok X w/\(Instr.checkKey em D t X).run P w= .ok () w):=by
 intro d
 induction d with
 |zero=>intro t ks h;cases h
 |succ d ih=>
  intro t ks WQ D hD us o l1;obtain⟨D,rfl⟩:∃D',D=D'+1:=⟨D-1,by omega⟩;unfold RL at WQ
  have leaf:∀(k:Kd),P.underlying t=some (e2u k)->ks=[k]->
   (XT P t=true->XY P t=some ks.length->(Instr.checkKey em (D+1) t (.agg (us.extract o (o+ks.length)))).run P w= .ok () w)∧
   (XY P t=some ks.length->∃X,(part t us o).run P w= .ok X w/\(Instr.checkKey em (D+1) t X).run P w= .ok () w):=by
   rintro k hu rfl
   have hg:XT P t=false:=by unfold XT;rw[hu];cases k<;>rfl
   simp only[List.length_singleton]at l1⊢;refine⟨(by rw[hg];intro h;cases h),fun _=>⟨us.getD o undef,c9r hu hg (by omega) w,?_⟩⟩;rw[Instr.checkKey];simp only[Sem.run_bind,Vm.run_underlying w hu,Result.andThen_ok]
   cases k<;>rfl
  split at WQ
  ·rename_i hu;exact leaf .b hu (by simpa using WQ.symm)
  ·rename_i k hu;exact leaf (.i k) hu (by simpa using WQ.symm)
  ·rename_i hu;exact leaf .s hu (by simpa using WQ.symm)
  ·rename_i fs hu;split at WQ
   ·cases WQ
   ·have hg:XT P t=true:=by unfold XT;rw[hu]
    have fields:∀(l:List Field) (k0 ks:List Kd) (us:Array Value),ks.length<=us.size->
     l.foldlM (fun ks f=>if f.name≠ "_"/\f.offset=ks.length then(RL P d f.type).bind fun q=>if XY P f.type=some q.length then some (ks++q)else none else none) k0=some ks->
     (∃k3,ks=k0++k3)/\(forIn l () fun f _=>do
      if f.name≠ "_" then Instr.checkKey em D f.type (<-part f.type us f.offset)
      pure (ForInStep.yield ()):Sem Unit).run P w= .ok () w:=by
     intro l
     induction l with
     |nil=>
      intro k0 ks us _ hf;simp only[List.foldlM_nil,a2I,a3y]at hf;subst hf;exact⟨⟨[],by simp⟩,by simp⟩
     |cons f l ihl=>
      intro k0 ks us Sl hf;rw[List.foldlM_cons]at hf
      by_cases hc:f.name≠ "_"/\f.offset=k0.length
      ·rw[if_pos hc]at hf
       cases hp:RL P d f.type with
       |none=>simp[hp]at hf
       |some q=>
        simp only[hp,a9J]at hf
        by_cases hq:XY P f.type=some q.length
        ·rw[if_pos hq]at hf;simp only[a5V,a9J]at hf;obtain⟨⟨k3,DE⟩,Ol⟩:=ihl (k0++q) ks us Sl hf
         have hlen:k0.length+q.length<=us.size:=by rw[DE]at Sl;simp at Sl;omega
         obtain⟨X,p1,p2⟩:=(ih f.type q hp D (by omega) us k0.length hlen).2 hq;refine⟨⟨q++k3,by rw[DE,b9Z]⟩,?_⟩;simp only[List.forIn_cons,Sem.run_bind,hc.1,ne_eq,not_false_eq_true,if_true,hc.2,p1,p2,Result.andThen_ok,Sem.run_pure];simpa using Ol
        ·rw[if_neg hq]at hf;simp at hf
      ·rw[if_neg hc]at hf;simp at hf
    have whole:XY P t=some ks.length->(Instr.checkKey em (D+1) t (.agg (us.extract o (o+ks.length)))).run P w= .ok () w:=by
     intro _;rw[Instr.checkKey];simp only[Sem.run_bind,Vm.run_underlying w hu,Result.andThen_ok];rw[<-Array.forIn_toList];have:=(fields fs.toList [] ks (us.extract o (o+ks.length)) (by simp;omega) (by simpa using WQ)).2;simp at this⊢;exact congrArg (fun(r:Result Unit)=>r.andThen fun _ w'=>Result.ok () w') this
    exact⟨fun _=>whole,fun hi=>⟨_,c0s hu hg hi us o w,whole hi⟩⟩
  ·cases WQ
theorem FH{t:TypeId}{ks:List Kd}(hk:RL P 20 t=some ks)(hi:XY P t=some ks.length){x:Value}(hx:Xh x=some (XT P t,ks))(em:Bool):
 (Instr.checkKey em 10000 t x).run P w= .ok () w:=by
 rcases FN hx with⟨us,rfl,h1,h2,h3⟩|⟨k,h1,h2,h3,h4⟩
 ·have hl:=e0v h2;have:=(c8M (w:=w) em 20 t ks hk 10000 (by omega) us 0 (by simp at hl;omega)).1 h1 hi;rw[show us.extract 0 (0+ks.length)=us from by rw[<-hl];simp]at this;exact this
 ·obtain⟨k0,M0,hu⟩:=e9u hk h1;rw[show(10000:Nat)=9999+1 from rfl,Instr.checkKey];simp only[Sem.run_bind,Vm.run_underlying w hu,Result.andThen_ok]
  cases k0<;>rfl
end
theorem HM{P:Program}{w:World}{r:Nat}{es:Array MapEntry}{clock:Nat}(hb:w.heap[r]? =some (.map es clock)):(getObj r).run P w= .ok (.map es clock) w:=by
 simp[getObj,Sem.run,hb]
theorem Cm{P:Program}{w:World}{r:Nat}{es:Array MapEntry}{clock:Nat}(o:Obj)(hb:w.heap[r]? =some (.map es clock)):(setObj r o).run P w= .ok () {w with heap:=w.heap.setIfInBounds r o}:=by
 simp[setObj,Sem.run,hb]
theorem d7d{u:Value}{k:Kd}(h:Y0 u=some k):Xh u=some (false,[k])/\X0 u=[u]:=by
 have h1:=e4u h;refine⟨?_,by simp[X0,h1.1]⟩
 cases u<;>simp_all[Y0,Xh]
section
variable{A:Nat->Prop}{ψ:Pl}{H:Hp}{w:World}
theorem d8d:∀(cs:List AV) (L:List Value) (l:List (Kd×Value)),L.length=cs.length->(∀i c,cs[i]? =some c->ZL A ψ H w c (L.getD i undef))->cs.mapM Hq=some l->
 L.mapM Y0=some (l.map (·.1))/\L=l.map (·.2):=by
 intro cs
 induction cs with
 |nil=>
  intro L l hl _ hm;simp at hm;subst hm;have:L=[]:=a2S (by simpa using hl);subst this;exact⟨by simp,by simp⟩
 |cons c cs ih=>
  intro L l hl hc hm
  cases L with
  |nil=>simp at hl
  |cons v L=>
   rw[a0Q]at hm
   cases hk:Hq c with
   |none=>simp[hk]at hm
   |some p=>
    cases hq:cs.mapM Hq with
    |none=>simp[hk,hq]at hm
    |some q=>
     simp[hk,hq]at hm;subst hm;obtain⟨g1,g2⟩:=ih L q (by simpa using hl) (fun i c h=>by simpa using hc (i+1) c (by simpa using h)) hq;have h0:=hc 0 c rfl;simp only[c4B]at h0;unfold Hq at hk;split at hk
     ·rename_i u;simp only[a9R]at hk;obtain⟨k,Xg,rfl⟩:=hk;have:=Vp h0;subst this;refine⟨?_,by simp[<-g2]⟩;rw[a0Q];simp[Xg,g1]
     ·cases hk
theorem d9d{x:AV}{v:Value}{S3:Bool×List Kd}{kk:List Value}(h:ZL A ψ H w x v)(hk:SB x=some (S3,kk)):Xh v=some S3/\X0 v=kk:=by
 unfold SB at hk;split at hk
 ·rename_i u;simp only[a9R,a2L]at hk;obtain⟨k,Xg,rfl,rfl⟩:=hk;have:=Vp h;subst this;exact d7d Xg
 ·rename_i cs;simp only[a9R,a2L]at hk;obtain⟨l,hl,rfl,rfl⟩:=hk;obtain⟨us,h1,h2,rfl⟩:=mW h;obtain⟨g1,g2⟩:=d8d cs us.toList l (by simpa using h1) (fun i c hc=>by rw[Sn];exact h2 i c hc) hl;exact⟨by simp[Xh,g1],by simp only[X0,Value.cells];exact g2⟩
 ·cases hk
theorem E9{α β:Type}{f:α->β}:∀{l:List α},(l.map f).Nodup->∀x∈l,∀y∈l,f x=f y->x=y:=by
 intro l
 induction l with
 |nil=>intro _ x hx;cases hx
 |cons a l ih=>
  intro h x hx y hy he;rw[a0I,b2H]at h
  rcases a5E.1 hx with rfl|Vq
  ·rcases a5E.1 hy with rfl|hy'
   ·rfl
   ·exact absurd (a0E.2 ⟨y,hy',he.symm⟩) h.1
  ·rcases a5E.1 hy with rfl|hy'
   ·exact absurd (a0E.2 ⟨x,Vq,he⟩) h.1
   ·exact ih h.2 x Vq y hy' he
end
section
variable{P:Program}{E:En}{n:Nat}{ψ:Pl}{s:St}{a:Act}{w:World}
variable{dst:Option Nat}{ty:TypeId}{pos:String}{af:Array Edge}{g:Option (Nat×Bool)}{r:V7}{d:Nat}{K:St->AV->Prop}
theorem d1e(h:Z7 E n ψ s a w){x:AV}{v:Value}(hx:ZL (Im E ψ s.hp) ψ s.hp w x v){sk:Sk}{gm:List Value->Option (List IV)}(hm:s.mapOf x=some (sk,gm)):
 (v= .map none/\∀k,gm k=none)\/∃b es clock,v= .map (some b)/\w.heap[b]? =some (.map es clock)/\Xw (Im E ψ s.hp) w sk gm es:=by
 unfold St.mapOf at hm;split at hm
 ·rename_i id;split at hm
  ·rename_i Dj g' ho;simp only[a3y,a2L]at hm;obtain⟨rfl,rfl⟩:=hm
   cases hx with
   |mpr _ b k o XI hb=>
    obtain⟨b',es,clock,h1,h2,_,h3⟩:=h.YC id _ ho;rw[h1]at hb;cases hb;exact .inr ⟨b,es,clock,rfl,h2,h3⟩
  ·rename_i Dj g' ns ks ho;simp only[a3y,a2L]at hm;obtain⟨rfl,rfl⟩:=hm
   cases hx with
   |mpr _ b k o XI hb=>
    obtain⟨b',es,clock,h1,h2,_,h3,_⟩:=h.YC id _ ho;rw[h1]at hb;cases hb;exact .inr ⟨b,es,clock,rfl,h2,h3⟩
  ·cases hm
 ·rename_i Dj g';simp only[a3y,a2L]at hm;obtain⟨rfl,rfl⟩:=hm
  cases hx with
  |iv _ _ hr=>
   cases hr with
   |mp _ _ b clock es vs hA hh UA XZ YQ _ hg kJ=>
    refine .inr ⟨b,es,clock,rfl,hh,UA,XZ,YQ,fun k c hc=>?_⟩;obtain⟨e,he,g1,g2,g3⟩:=hg k c hc;refine⟨e,he,g1,g2,fun i y hy=>?_⟩;have:=g3 i y hy;rw[show e.val.cells.getD i undef=vs k i from by simp[a3E,this]];exact kJ k c hc i y hy
   |Mp _ _ hn=>exact .inl ⟨rfl,hn⟩
 ·cases hm
theorem d2e{k e:TypeId}{sk:Sk}(h:MD P k e=some sk):RL P 20 k=some sk.2.1/\XY P k=some sk.2.1.length/\sk.1=XT P k/\sk.2.2=XT P e:=by
 unfold MD at h;obtain⟨l,hl,h⟩:=b6v.1 h;split at h
 ·rename_i hi;split at h
  ·simp only[a3y]at h;subst h;exact⟨hl,hi,rfl,rfl⟩
  ·cases h
 ·cases h
theorem d3e{t k e:TypeId}{sk:Sk}(hd:d<1000)(h:Z7 E n ψ s a w)(hk:ZQ P d s K (.XB sk)):
 XX P E n ⟨dst, .makeMap t none,ty,pos,af,g⟩ a w K:=by
 simp only[ZQ]at hk;have h1:=h.drop (id:=d) hd
 have h2:=h1.new (o:= .map sk fun _=>none) (p:=some (w.heap.size,(0,0))) hd (LI s d) (Ext.alloc w (.map #[] 0)) (fun b k e=>by cases e;exact a8F _)
  ⟨w.heap.size, #[],0,by simp[XE],mL _ _,⟨by simp,by simp⟩,by simp,by simp,by simp,fun k c hc=>by cases hc⟩
 refine Sh (v:= .map (some w.heap.size)) (w':=w.alloc (.map #[] 0)) ?_ hk h2 (.mpr d w.heap.size (0,0) _ (by simp[WL];rfl) (by simp[XE]));simp[execOp,Instr.makeMap]
theorem d4e{A:Nat->Prop}{H:Hp}{cs:List AV}{v:Value}{ag:Bool}(hg:Sz v=ag)(hl:v.cells.size=cs.length)(hc:∀i x,cs[i]? =some x->ZL A ψ H w x (v.cells.getD i undef)):
 ZL A ψ H w (S5 ag cs) v:=by
 subst hg
 cases v with
 |agg us=>exact .agg cs us hl hc
 | _=>
  simp only[S5,Sz,a1N,if_false]
  match cs,hl,hc with
  | [x],_,hc=>exact hc 0 x rfl
  | [],hl,_=>simp[Value.cells]at hl
  |x::y::r,hl,_=>simp[Value.cells]at hl
theorem d5e{t k' e':TypeId}{m k:Operand}{ok:Bool}{sk:Sk}{z:List AV}(hu:P.underlying t=some (.map k' e'))(UA:MD P k' e'=some sk)(hz:QI P e'=some z)
 (QF:((P.info? e').bind (·.zero)).map Sz=some (XT P e')) (h:Z7 E n ψ s a w) (hk:match s.mapOf (s.ev m),SB (s.ev k)with
  |some (Xi,g),some (S3,kk)=>Xi=sk/\S3=(sk.1,sk.2.1)/\K s (Nz z sk.2.2 ok (g kk))
  | _,_=>False):
 ∃v av,(∀u,Ext w u->(execOp a.eval ⟨dst, .lookup t m k ok,ty,pos,af,g⟩).run P u= .ok (.value v) u)/\K s av/\ZL (Im E ψ s.hp) ψ s.hp w av v:=by
 obtain⟨p1,p2,p3,p4⟩:=d2e UA;have hm:=h.ev m;have FJ:=h.ev k;split at hk
 ·rename_i Xi gm S3 kk HL Rr;obtain⟨rfl,rfl,hk⟩:=hk;obtain⟨Xg,Um⟩:=d9d FJ Rr;rw[p3]at Xg
  have found:∀es:Array MapEntry,(a.eval m= .map none/\es= #[]\/∃b clock,a.eval m= .map (some b)/\w.heap[b]? =some (.map es clock))->Xw (Im E ψ s.hp) w Xi gm es->
   ∃v,(∀u,Ext w u->(execOp a.eval ⟨dst, .lookup t m k ok,ty,pos,af,g⟩).run P u= .ok (.value v) u)/\ZL (Im E ψ s.hp) ψ s.hp w (Nz z Xi.2.2 ok (gm kk)) v:=by
   intro es LJ hr
   have Zq:∀e∈es.toList,Xh e.key=some (XT P k',Xi.2.1):=fun e he=>by rw[<-p3];exact(hr.1 e he).1
   have fin:∀u,Ext w u->∀r v,(Instr.findKey k' (a.eval k) es.toList).run P u= .ok r u->(match r with|some (_,v')=>v'=v/\True|none=>(zeroValue e').run P u= .ok v u)->
    (execOp a.eval ⟨dst, .lookup t m k ok,ty,pos,af,g⟩).run P u= .ok (.value (if ok then .tuple #[v, .bool r.isSome]else v)) u:=by
    intro u hx r v h1 h2;simp only[execOp,Sem.run_bind]
    have:(Instr.lookup t (a.eval m) (a.eval k) ok).run P u= .ok (if ok then .tuple #[v, .bool r.isSome]else v) u:=by
     unfold Instr.lookup;rw[Sem.run_bind,Vm.run_underlying u hu,Result.andThen_ok]
     rcases LJ with⟨e1,rfl⟩|⟨b,clock,e1,e2⟩
     ·rw[e1];simp only[Sem.run_bind,Sem.run_pure,FH p1 p2 Xg,Result.andThen_ok,h1]
      cases r with
      |none=>simp only[Sem.run_bind,h2,Result.andThen_ok,Sem.run_pure];cases ok<;>rfl
      |some p=>obtain⟨i,v'⟩:=p;obtain⟨rfl,_⟩:=h2;simp only[Sem.run_pure,Result.andThen_ok];cases ok<;>rfl
     rw[e1];simp only[Sem.run_bind,Sem.run_pure,HM (hx.heap e2),FH p1 p2 Xg es.isEmpty,Result.andThen_ok,h1]
     cases r with
     |none=>simp only[Sem.run_bind,h2,Result.andThen_ok,Sem.run_pure];cases ok<;>rfl
     |some p=>obtain⟨i,v'⟩:=p;obtain⟨rfl,_⟩:=h2;simp only[Sem.run_pure,Result.andThen_ok];cases ok<;>rfl
    rw[this];rfl
   by_cases hex:∃e∈es.toList,e.key=a.eval k
   ·obtain⟨e,he,h3⟩:=hex;obtain⟨c,hc⟩:=hr.2.1 e he;rw[h3,Um]at hc;obtain⟨e2,Fa,g1,g2,g3⟩:=hr.2.2.2 kk c hc;have:e2=e:=E9 hr.2.2.1 e2 Fa e he (by rw[g1,h3,Um]);subst this;refine⟨if ok then .tuple #[e2.val, .bool true]else e2.val,fun u hx=>?_,?_⟩
    ·rcases oy (w:=u) p1 p2 Xg es.toList Zq with⟨h1,h2⟩|⟨j,e,h1,h2,h4⟩
     ·exact absurd h3 (h2 e2 he)
     ·have:e=e2:=E9 hr.2.2.1 e (a6y h2) e2 he (by rw[h3,h4]);subst this;exact fin u hx (some (j,e.val)) e.val h1 ⟨rfl,trivial⟩
    rw[hc]
    have hp:ZL (Im E ψ s.hp) ψ s.hp w (S5 Xi.2.2 (c.map .iv)) e2.val:=
     d4e (hr.1 e2 Fa).2 (by simpa using g2) fun i x hx=>by
      rw[a1C]at hx
      cases hi:c[i]? with
      |none=>rw[hi]at hx;cases hx
      |some y=>rw[hi]at hx;cases hx;exact .iv _ _ (g3 i y hi)
    cases ok
    ·exact hp
    ·refine .Zp _ _ rfl fun i c hc=>?_
     match i,hc with
     | 0,hc=>cases hc;exact hp
     | 1,hc=>cases hc;exact UB rfl
   ·have YQ:gm kk=none:=by
     cases hc:gm kk with
     |none=>rfl
     |some c=>
      obtain⟨e,he,g1,_⟩:=hr.2.2.2 kk c hc;exact absurd ⟨e,he,e6u (Zq e he) Xg (by rw[g1,Um])⟩ hex
    obtain⟨i,zv,z1,z2,rfl⟩:=DA hz;rw[z1]at QF;simp only[a9J,z2,a8H,a3y]at QF;refine⟨if ok then .tuple #[zv, .bool false]else zv,fun u hx=>?_,?_⟩
    ·rcases oy (w:=u) p1 p2 Xg es.toList Zq with⟨h1,h2⟩|⟨j,e,h1,h2,h4⟩
     ·exact fin u hx none zv h1 (G3 z1 z2 u)
     ·exact absurd ⟨e,a6y h2,h4⟩ hex
    rw[YQ]
    have hp:ZL (Im E ψ s.hp) ψ s.hp w (S5 Xi.2.2 (Ov zv.cells.toList (oS P 20 e'))) zv:=
     d4e (by rw[p4];exact QF) (by rw[G4];simp) fun i x hx=>by
      obtain⟨sz,e⟩:=mM _ _ _ _ hx;rw[e,Sn];exact CK _ _
    cases ok
    ·exact hp
    ·refine .Zp _ _ rfl fun i c hc=>?_
     match i,hc with
     | 0,hc=>cases hc;exact hp
     | 1,hc=>cases hc;exact UB rfl
  rcases d1e h hm HL with⟨hv,hn⟩|⟨b,es,clock,hv,hh,hr⟩
  ·obtain⟨v,h1,h2⟩:=found #[] (.inl ⟨hv,rfl⟩) ⟨by simp,by simp,by simp,fun k c hc=>by rw[hn]at hc;cases hc⟩;exact⟨v,_,h1,hk,h2⟩
  ·obtain⟨v,h1,h2⟩:=found es (.inr ⟨b,clock,hv,hh⟩) hr;exact⟨v,_,h1,hk,h2⟩
 ·exact hk.elim
end
theorem b4r{v:Value}{k:Kd}(h:Y0 v=some k)(n:Nat):Instr.sameBits n v v=true:=by
 cases v<;>simp[Y0]at h<;>cases n<;>simp[Instr.sameBits,e3u]
theorem b5r{v:Value}{ag:Bool}{ks:List Kd}(h:Xh v=some (ag,ks)):Instr.sameBits 10000 v v=true:=by
 rcases FN h with⟨cs,rfl,h1,h2,h3⟩|⟨k,h1,h2,h3,h4⟩
 ·rw[show(10000:Nat)=9999+1 from rfl];simp only[Instr.sameBits,beq_self_eq_true,Bool.true_and,a8C]
  have aux:∀(l:List Value) (ks:List Kd),l.mapM Y0=some ks->∀p∈l.zip l,Instr.sameBits 9999 p.1 p.2=true:=by
   intro l
   induction l with
   |nil=>intro ks _ p hp;simp at hp
   |cons x r ih=>
    intro ks hm p hp;rw[a0Q]at hm
    cases hx:Y0 x with
    |none=>simp[hx]at hm
    |some kx=>
     cases hq:r.mapM Y0 with
     |none=>simp[hx,hq]at hm
     |some q=>
      rw[List.zip_cons_cons]at hp
      rcases a5E.1 hp with rfl|hp
      ·exact b4r hx _
      ·exact ih q hq p hp
  exact fun p hp=>aux _ _ h2 p hp
 ·exact b4r h3 _
theorem l6(g:List Value->Option (List IV))(k:List Value)(c:Option (List IV)):ZH g k c k=c:=by simp[ZH]
theorem oA(g:List Value->Option (List IV)){k q:List Value}(c:Option (List IV))(h:q≠k):ZH g k c q=g q:=by simp[ZH,h]
theorem Wm.push{es:Array MapEntry}{clock:Nat}(h:Wm es clock)(e:MapEntry)(he:e.born=clock):Wm (es.push e) (clock+1):=by
 obtain⟨h1,h2⟩:=h;constructor
 ·intro x hx;rw[a8U,a9E,a1B]at hx
  rcases hx with hx|rfl
  ·exact Nat.lt_succ_of_lt (h1 x hx)
  ·omega
 ·rw[a8U,a5M,b6n];refine⟨h2,by simp,?_⟩;intro x hx y hy R9;rw[c5B,a1B]at hy;obtain⟨z,hz,hzx⟩:=a0E.1 hx;have:=h1 z hz;omega
theorem b8r(es:Array MapEntry)(i:Nat)(f:MapEntry->MapEntry)(hf:∀e,(f e).born=e.born):(es.modify i f).toList.map (·.born)=es.toList.map (·.born):=by
 apply b6r;intro j;rw[a1C,a1C,a1E,a5N,a1E];split
 ·cases es[j]? <;>simp[hf]
 ·rfl
theorem Wm.of_map{es Wg:Array MapEntry}{clock:Nat}(h:Wm es clock)(he:Wg.toList.map (·.born)=es.toList.map (·.born)):Wm Wg clock:=by
 obtain⟨h1,h2⟩:=h;refine⟨fun x hx=>?_,by rw[he];exact h2⟩;have:x.born∈Wg.toList.map (·.born):=a0E.2 ⟨x,hx,rfl⟩;rw[he]at this;obtain⟨y,hy,e⟩:=a0E.1 this;rw[<-e];exact h1 y hy
theorem Wm.modify{es:Array MapEntry}{clock:Nat}(h:Wm es clock)(i:Nat)(f:MapEntry->MapEntry)(hf:∀e,(f e).born=e.born):Wm (es.modify i f) clock:=
 h.of_map (b8r es i f hf)
theorem Wm.erase{es:Array MapEntry}{clock:Nat}(h:Wm es clock)(i:Nat):Wm (es.eraseIdxIfInBounds i) clock:=by
 by_cases hi:i<es.size
 ·have QQ:(es.eraseIdxIfInBounds i).toList=es.toList.eraseIdx i:=by
   simp[c4u,hi,c6T]
  refine⟨fun x hx=>?_,?_⟩
  ·rw[QQ]at hx;exact h.1 x (c5Q hx)
  ·rw[QQ];exact h.2.sublist (c6R _ (c8A _ _))
 ·have:es.eraseIdxIfInBounds i=es:=by simp[c4u,hi]
  rw[this];exact h
section
variable{A:Nat->Prop}{w:World}
theorem Xw.modify{A':Nat->Prop}{w':World}{sk:Sk}{g:List Value->Option (List IV)}{es:Array MapEntry}(h:Xw A w sk g es)(tr:∀x v,Yq A w x v->Yq A' w' x v){j:Nat}{e:MapEntry}(he:es[j]? =some e){val:Value}{c:List IV}
 (hv:Sz val=sk.2.2) (hl:val.cells.size=c.length) (hc:∀i x,c[i]? =some x->Yq A' w' x (val.cells.getD i undef)):
 Xw A' w' sk (ZH g (X0 e.key) (some c)) (es.modify j fun e=>{e with val:=val}):=by
 obtain⟨h1,h2,h3,h4⟩:=h
 have Rs:∀i,(es.modify j fun e=>{e with val:=val})[i]? =if j=i then(es[i]?).map (fun e=>{e with val:=val})else es[i]? :=by
  intro i;rw[a5N]
 have WA:∀e'∈(es.modify j fun e=>{e with val:=val}).toList,(e'={e with val:=val})\/(e'∈es.toList/\∃i,i≠j/\es[i]? =some e'):=by
  intro e' XF;obtain⟨i,hi⟩:=a9B XF;rw[a1E,Rs]at hi;split at hi
  ·rename_i Wd;subst Wd;rw[he]at hi;simp only[a8H,a3y]at hi;exact .inl hi.symm
  ·rename_i Wd;exact .inr ⟨by rw[<-a1E]at hi;exact a6y hi,i,fun e=>Wd e.symm,hi⟩
 have hee:e∈es.toList:=by rw[<-a1E]at he;exact a6y he
 have FM:({e with val:=val}:MapEntry)∈(es.modify j fun e=>{e with val:=val}).toList:=by
  refine a6y (i:=j) ?_;rw[a1E,Rs,if_pos rfl,he];rfl
 have FL:(es.modify j fun e=>{e with val:=val}).toList.map (fun e=>X0 e.key)=es.toList.map (fun e=>X0 e.key):=by
  apply b6r;intro i;rw[a1C,a1C,a1E,Rs,a1E];split
  ·cases es[i]? <;>rfl
  ·rfl
 refine⟨fun e' XF=>?_,fun e' XF=>?_,by rw[FL];exact h3,fun k q hq=>?_⟩
 ·rcases WA e' XF with rfl|⟨hm,_⟩
  ·exact⟨(h1 e hee).1,hv⟩
  ·exact h1 e' hm
 ·by_cases hk:X0 e'.key=X0 e.key
  ·exact⟨c,by rw[hk,l6]⟩
  ·rw[oA _ _ hk]
   rcases WA e' XF with rfl|⟨hm,_⟩
   ·exact absurd rfl hk
   ·exact h2 e' hm
 ·by_cases hk:k=X0 e.key
  ·subst hk;rw[l6]at hq;cases hq;exact⟨_,FM,rfl,hl,hc⟩
  ·rw[oA _ _ hk]at hq;obtain⟨e',XF,g1,g2,g3⟩:=h4 k q hq;refine⟨e',?_,g1,g2,fun i x hx=>tr _ _ (g3 i x hx)⟩;obtain⟨i,hi⟩:=a9B XF;refine a6y (i:=i) ?_;rw[a1E,Rs];rw[a1E]at hi;rw[if_neg ?_]
   ·exact hi
   ·rintro rfl;rw[he]at hi;cases hi;exact hk g1.symm
theorem Xw.push{A':Nat->Prop}{w':World}{sk:Sk}{g:List Value->Option (List IV)}{es:Array MapEntry}(h:Xw A w sk g es)(tr:∀x v,Yq A w x v->Yq A' w' x v){e:MapEntry}(YQ:∀e'∈es.toList,X0 e'.key≠X0 e.key){c:List IV}
 (hf:Fits sk e) (hl:e.val.cells.size=c.length) (hc:∀i x,c[i]? =some x->Yq A' w' x (e.val.cells.getD i undef)):
 Xw A' w' sk (ZH g (X0 e.key) (some c)) (es.push e):=by
 obtain⟨h1,h2,h3,h4⟩:=h
 have WA:∀e'∈(es.push e).toList,e'=e\/e'∈es.toList:=by
  intro e' XF;rw[a8U,a9E,a1B]at XF;exact XF.symm
 refine⟨fun e' XF=>?_,fun e' XF=>?_,?_,fun k q hq=>?_⟩
 ·rcases WA e' XF with rfl|hm
  ·exact hf
  ·exact h1 e' hm
 ·by_cases hk:X0 e'.key=X0 e.key
  ·exact⟨c,by rw[hk,l6]⟩
  ·rw[oA _ _ hk]
   rcases WA e' XF with rfl|hm
   ·exact absurd rfl hk
   ·exact h2 e' hm
 ·rw[a8U,a5M,b6n];refine⟨h3,by simp,?_⟩;intro x hx y hy R9;rw[c5B,a1B]at hy;subst hy;subst R9;obtain⟨e',XF,e2⟩:=a0E.1 hx;exact YQ e' XF e2
 ·by_cases hk:k=X0 e.key
  ·subst hk;rw[l6]at hq;cases hq;exact⟨e,by simp,rfl,hl,hc⟩
  ·rw[oA _ _ hk]at hq;obtain⟨e',XF,g1,g2,g3⟩:=h4 k q hq;exact⟨e',by rw[a8U];exact a7N _ XF,g1,g2,fun i x hx=>tr _ _ (g3 i x hx)⟩
theorem Xw.erase{A':Nat->Prop}{w':World}{sk:Sk}{g:List Value->Option (List IV)}{es:Array MapEntry}(h:Xw A w sk g es)(tr:∀x v,Yq A w x v->Yq A' w' x v){j:Nat}{e:MapEntry}(he:es[j]? =some e):
 Xw A' w' sk (ZH g (X0 e.key) none) (es.eraseIdxIfInBounds j):=by
 obtain⟨h1,h2,h3,h4⟩:=h;have hj:j<es.size:=(c8l.1 he).1
 have QQ:(es.eraseIdxIfInBounds j).toList=es.toList.eraseIdx j:=by
  simp[c4u,hj,c6T]
 have Y9:∀e'∈es.toList.eraseIdx j,e'∈es.toList:=fun e' h=>c5Q h
 have PD:es.toList[j]? =some e:=by rw[a1E];exact he
 have hnk:∀e'∈es.toList.eraseIdx j,X0 e'.key≠X0 e.key:=by
  intro e' XF hk;obtain⟨i,Xu,hi⟩:=c2I.1 XF;have hh:=b5K.1 h3
  have a1:(es.toList.map fun e=>X0 e.key)[i]? =some (X0 e.key):=by rw[a1C,hi];simp[hk]
  have a2:(es.toList.map fun e=>X0 e.key)[j]? =some (X0 e.key):=by rw[a1C,PD];rfl
  obtain⟨Zd,e1⟩:=a5y.1 a1;obtain⟨SJ,e2⟩:=a5y.1 a2
  rcases Nat.lt_or_gt_of_ne Xu with h|h
  ·exact hh i j Zd SJ h (e1.trans e2.symm)
  ·exact hh j i SJ Zd h (e2.trans e1.symm)
 refine⟨fun e' XF=>h1 e' (Y9 e' (by rw[<-QQ];exact XF)),fun e' XF=>?_,?_,fun k q hq=>?_⟩
 ·rw[QQ]at XF;rw[oA _ _ (hnk e' XF)];exact h2 e' (Y9 e' XF)
 ·rw[QQ];exact h3.sublist (c6R _ (c8A _ _))
 ·by_cases hk:k=X0 e.key
  ·subst hk;rw[l6]at hq;cases hq
  ·rw[oA _ _ hk]at hq;obtain⟨e',XF,g1,g2,g3⟩:=h4 k q hq;refine⟨e',?_,g1,g2,fun i x hx=>tr _ _ (g3 i x hx)⟩;rw[QQ];obtain⟨i,hi⟩:=a9B XF;refine c2I.2 ⟨i,?_,hi⟩;rintro rfl;rw[PD]at hi;cases hi;exact hk g1.symm
theorem Xw.conv{A':Nat->Prop}{w':World}{sk:Sk}{g g':List Value->Option (List IV)}{es:Array MapEntry}(h:Xw A w sk g es)(tr:∀x v,Yq A w x v->Yq A' w' x v)(hg:∀k,g' k=g k):Xw A' w' sk g' es:=by
 obtain⟨h1,h2,h3,h4⟩:=h;refine⟨h1,fun e he=>by rw[hg];exact h2 e he,h3,fun k q hq=>?_⟩;rw[hg]at hq;obtain⟨e',XF,g1,g2,g3⟩:=h4 k q hq;exact⟨e',XF,g1,g2,fun i x hx=>tr _ _ (g3 i x hx)⟩
end
section
variable{P:Program}{E:En}{n:Nat}{ψ:Pl}{s:St}{a:Act}{w:World}
variable{dst:Option Nat}{ty:TypeId}{pos:String}{af:Array Edge}{g:Option (Nat×Bool)}{r:V7}{d:Nat}{K:St->AV->Prop}
theorem b4s(h:Z7 E n ψ s a w){id:Nat}{sk:Sk}{gm HO:List Value->Option (List IV)}(ho:look s.hp id=some (.map sk gm)){b clock YS:Nat}{es Wg:Array MapEntry}
 (hb:ψ id=some (b,(0,0))) (hh:w.heap[b]? =some (.map es clock)) (UZ:Wm Wg YS)
 (hm:∀{A':Nat->Prop} {w':World},(∀x v,Yq (Im E ψ s.hp) w x v->Yq A' w' x v)->Xw A' w' sk HO Wg):
 Z7 E n ψ (s.add id (.map sk HO)) a {w with heap:=w.heap.setIfInBounds b (.map Wg YS)}:=by
 have Z2:b<w.heap.size:=(c8l.1 hh).1;refine h.MV (o':= .map sk HO) (k:=(0,0)) ho (Ob.le_none rfl) rfl (by simp[Ob.multi]) hb (fun i hi=>?_) (by simp) ⟨rfl,rfl,rfl,a8F _⟩ (fun _ tr=>⟨b,Wg,YS,hb,?_,UZ,hm tr⟩)
 ·show(w.heap.setIfInBounds b _)[i]? =_
  rw[a6S (Ne.symm hi)]
 ·show(w.heap.setIfInBounds b _)[b]? =_
  simp[Z2]
theorem b5s{A:Nat->Prop}{H:Hp}{x:AV}{v:Value}(h:ZL A ψ H w x v){cs:List AV}(hc:x.cellsOf=some cs):Sz v=FW x:=by
 cases h with
 |agg=>rfl
 |iv x v h=>cases h with
  |v x h1=>cases v<;>simp_all[Value.oneCell',Sz,FW]
  | _=>rfl
 |Zp=>cases hc
 |un=>cases hc
 |junk=>cases hc
 | _=>rfl
theorem b6s(h:Z7 E n ψ s a w){x:AV}{v:Value}(hx:ZL (Im E ψ s.hp) ψ s.hp w x v):ZL (Im E ψ s.hp) ψ s.hp w (s.oz x) v:=by
 unfold St.oz;split
 ·rename_i u;split
  ·rename_i id hf;obtain⟨g,Z,vs,cs,i,h1,h2,h3⟩:=c8Q hf;have hv:v=u:=Vp hx;subst hv;have:=(h.YC g _ h1).2.2.2 i _ h3;rw[a7S,h2]at this;exact this
  ·exact hx
 ·exact hx
theorem b7s{t k' e':TypeId}{m k x:Operand}{sk:Sk}(hu:P.underlying t=some (.map k' e'))(UA:MD P k' e'=some sk)(h:Z7 E n ψ s a w)(hk:match (s.YX [s.ev x]).oz ((s.YX [s.ev x]).ev m),SB ((s.YX [s.ev x]).ev k),((s.YX [s.ev x]).ev x).cellsOf.bind fun cs=>cs.mapM AV.iv? with
 | .mpr id,some (S3,kk),some c=>match look (s.YX [s.ev x]).hp id with
  |some (.map Xi g)=>Xi=sk/\S3=(sk.1,sk.2.1)/\FW ((s.YX [s.ev x]).ev x)=sk.2.2/\K ((s.YX [s.ev x]).add id (.map sk (ZH g kk (some c)))) .un
  | _=>False
 | _,_,_=>False)
 {o:Op} (Na:o= .mapUpdate t m k x\/o= .insert t m k x):XX P E n ⟨dst,o,ty,pos,af,g⟩ a w K:=by
 obtain⟨p1,p2,p3,p4⟩:=d2e UA;have hf:=h.YX [s.ev x];generalize s.YX [s.ev x]=s1 at hk hf;have hm:=b6s hf (hf.ev m);have FJ:=hf.ev k;have hx:=hf.ev x;split at hk
 ·rename_i id S3 kk c FI Rr hcs;split at hk
  ·rename_i Xi gm ho;obtain⟨rfl,rfl,hag,hk⟩:=hk;obtain⟨Xg,Um⟩:=d9d FJ Rr;rw[p3]at Xg;rw[FI]at hm;obtain⟨b,es,clock,hb,hh,UZ,hr⟩:=hf.YC id _ ho
   have HN:a.eval m= .map (some b):=by
    generalize a.eval m=vm at hm
    cases hm with
    |mpr _ b' q o' XI XH=>rw[hb]at XH;cases XH;rfl
   cases QO:(s1.ev x).cellsOf with
   |none=>rw[QO]at hcs;cases hcs
   |some cs=>
    rw[QO]at hcs;simp only[a9J]at hcs;obtain⟨g1,g2⟩:=nc hx QO;obtain⟨v1,v2⟩:=a9D hf (vs:=(a.eval x).cells.toList) (by simpa using g1) (fun i y hy=>by rw[Sn];exact g2 i y hy) hcs
    have hl:(a.eval x).cells.size=c.length:=by rw[v1];exact g1
    have hv:Sz (a.eval x)=Xi.2.2:=by rw[b5s hx QO];exact hag
    have v2':∀i y,c[i]? =some y->Yq (Im E ψ s1.hp) w y ((a.eval x).cells.getD i undef):=fun i y hy=>by rw[<-Sn];exact v2 i y hy
    have Zq:∀e∈es.toList,Xh e.key=some (XT P k',Xi.2.1):=fun e he=>by rw[<-p3];exact(hr.1 e he).1
    have run:∀w',(Instr.mapUpdate t (.map (some b)) (a.eval k) (a.eval x)).run P w= .ok () w'->(execOp a.eval ⟨dst,o,ty,pos,af,g⟩).run P w= .ok .skip w':=by
     intro w' XA
     rcases Na with rfl|rfl<;>simp only[execOp,HN,Sem.run_bind,XA,Result.andThen_ok,Sem.run_pure]
    rcases oy (w:=w) p1 p2 Xg es.toList Zq with⟨h1,h2⟩|⟨j,e,h1,h2,h3⟩
    ·have YQ:∀e∈es.toList,X0 e.key≠X0 (a.eval k):=fun e he Uh=>h2 e he (e6u (Zq e he) Xg Uh)
     have XG:=b4s (YS:=clock+1) hf ho hb hh (UZ.push _ rfl) (HO:=ZH gm kk (some c)) (Wg:=es.push {key:=a.eval k,val:=a.eval x,born:=clock}) (fun tr=>by
      rw[<-Um]
      exact hr.push tr (e:={key:=a.eval k,val:=a.eval x,born:=clock}) YQ ⟨by rw[p3];exact Xg,hv⟩ hl (fun i y hy=>tr _ _ (v2' i y hy)))
     refine oY (run _ ?_) hk XG;unfold Instr.mapUpdate;simp only[Sem.run_bind,Vm.run_underlying w hu,Result.andThen_ok,HM hh,FH p1 p2 Xg,h1,Cm _ hh]
    ·have he:e∈es.toList:=a6y h2
     have PD:es[j]? =some e:=by rw[<-a1E];exact h2
     have XG:=b4s (YS:=clock) hf ho hb hh (UZ.modify _ _ fun _=>rfl) (HO:=ZH gm kk (some c)) (Wg:=es.modify j fun e=>{e with val:=a.eval x}) (fun tr=>by
      rw[<-Um, <-h3]
      exact hr.modify tr PD hv hl (fun i y hy=>tr _ _ (v2' i y hy)))
     have PE:(es.modify j fun e=>{e with key:=a.eval k,val:=a.eval x})=es.modify j fun e=>{e with val:=a.eval x}:=by
      apply b1p;apply b6r;intro i;rw[a1E,a1E,a5N,a5N];split
      ·rename_i Wd;subst Wd;rw[PD];simp[h3]
      ·rfl
     refine oY (run _ ?_) hk XG;unfold Instr.mapUpdate;simp only[Sem.run_bind,Vm.run_underlying w hu,Result.andThen_ok,HM hh,FH p1 p2 Xg,h1]
     have YD:(Instr.keyThatStays (((es[j]?).map (·.key)).getD (a.eval k)) (a.eval k)).run P w= .ok (a.eval k) w:=by
      unfold Instr.keyThatStays;rw[PD];simp only[a8H,a1J,h3,b5r Xg,if_true,Sem.run_pure]
     rw[YD];simp only[Result.andThen_ok,PE,Cm _ hh]
  ·exact hk.elim
 ·exact hk.elim
theorem b8s{t k' e':TypeId}{m k:Operand}{ts:Array TypeId}{sk:Sk}(h0:ts[0]? =some t)(hu:P.underlying t=some (.map k' e'))(UA:MD P k' e'=some sk)(h:Z7 E n ψ s a w)
 (hk:ZQ P d s K (.FY sk m k)):XX P E n ⟨dst, .call ⟨.builtin .delete, #[m,k],ts⟩,ty,pos,af,g⟩ a w K:=by
 simp only[ZQ]at hk;obtain⟨p1,p2,p3,p4⟩:=d2e UA;have hm:=h.ev m;have FJ:=h.ev k;split at hk
 ·rename_i id S3 kk FI Rr;split at hk
  ·rename_i Xi gm ho;obtain⟨rfl,rfl,hk⟩:=hk;obtain⟨Xg,Um⟩:=d9d FJ Rr;rw[p3]at Xg;rw[FI]at hm;obtain⟨b,es,clock,hb,hh,UZ,hr⟩:=h.YC id _ ho
   have HN:a.eval m= .map (some b):=by
    generalize a.eval m=vm at hm
    cases hm with
    |mpr _ b' q o' XI XH=>rw[hb]at XH;cases XH;rfl
   have Zq:∀e∈es.toList,Xh e.key=some (XT P k',Xi.2.1):=fun e he=>by rw[<-p3];exact(hr.1 e he).1
   have run:∀v w',(Builtin.delete_ ts ty #[.map (some b),a.eval k]).run P w= .ok v w'->(execOp a.eval ⟨dst, .call ⟨.builtin .delete, #[m,k],ts⟩,ty,pos,af,g⟩).run P w= .ok (.value v) w':=by
    intro v w' XA;simp only[execOp,resolve,Sem.run_bind,Sem.run_pure,Result.andThen_ok,invoke,builtin];simp[HN,XA]
   have f5O:∀{A:Nat->Prop} {ψ:Pl} {H:Hp} {w:World},ZL A ψ H w (.Zp []) (.tuple #[]):= .Zp _ _ rfl (by simp)
   rcases oy (w:=w) p1 p2 Xg es.toList Zq with⟨h1,h2⟩|⟨j,e,h1,h2,h3⟩
   ·have f6O:gm kk=none:=by
     cases hc:gm kk with
     |none=>rfl
     |some c=>
      obtain⟨e,he,g1,_⟩:=hr.2.2.2 kk c hc;exact absurd (e6u (Zq e he) Xg (by rw[g1,Um])) (h2 e he)
    have XG:=b4s (YS:=clock) h ho hb hh UZ (HO:=ZH gm kk none) (Wg:=es) (fun tr=>hr.conv tr fun q=>by
     by_cases hq:q=kk
     ·subst hq;rw[l6,f6O]
     ·rw[oA _ _ hq])
    refine Sh (run (.tuple #[]) _ ?_) hk XG f5O;unfold Builtin.delete_;simp[h0,Vm.run_underlying w hu,HM hh,FH p1 p2 Xg,h1,Cm _ hh]
   ·have PD:es[j]? =some e:=by rw[<-a1E];exact h2
    have XG:=b4s (YS:=clock) h ho hb hh (UZ.erase j) (HO:=ZH gm kk none) (Wg:=es.eraseIdxIfInBounds j) (fun tr=>by
     rw[<-Um, <-h3]
     exact hr.erase tr PD)
    refine Sh (run (.tuple #[]) _ ?_) hk XG f5O;unfold Builtin.delete_;simp[h0,Vm.run_underlying w hu,HM hh,FH p1 p2 Xg,h1,Cm _ hh]
  ·exact hk.elim
 ·exact hk.elim
theorem b9s{t k' e':TypeId}{x:Operand}{ts:Array TypeId}(h0:ts[0]? =some t)(hu:P.underlying t=some (.map k' e'))(h:Z7 E n ψ s a w)(hk:ZQ P d s K (.FX x)):
 XX P E n ⟨dst, .call ⟨.builtin .len, #[x],ts⟩,ty,pos,af,g⟩ a w K:=by
 simp only[ZQ]at hk;have hx:=h.ev x;split at hk
 ·rename_i sk gm HL
  rcases d1e h hx HL with⟨hv,hn⟩|⟨b,es,clock,hv,hh,hr⟩
  ·refine e8n h (v:= .int .i64 0) (c5r ?_) (hk 0 (by simp[hn])) (UB rfl);rw[hv];simp[Builtin.len_,h0,Vm.run_underlying w hu,goInt]
  ·refine e8n h (v:= .int .i64 es.size) (c5r ?_) (hk es.size ?_) (UB rfl)
   ·rw[hv];simp[Builtin.len_,h0,Vm.run_underlying w hu,goInt,HM hh]
   ·constructor
    ·intro h0 k
     cases hc:gm k with
     |none=>rfl
     |some c=>
      obtain⟨e,he,_⟩:=hr.2.2.2 k c hc;have:es= #[]:=b9b h0;rw[this]at he;cases he
    ·intro hn
     rcases b0q es.size with h0|h0
     ·exact h0
     ·have he:es[0]∈es.toList:=by simp
      obtain⟨c,hc⟩:=hr.2.1 _ he;rw[hn]at hc;cases hc
 ·exact hk.elim
end
theorem e2x(z:Array Value)(m i j:Nat)(hi:i<m)(hj:j<z.size):(madeCells z (m*z.size)).getD (i*z.size+j) undef=z.getD j undef:=by
 have Z2:i*z.size+j<m*z.size:=by
  have h1:(i+1)*z.size<=m*z.size:=a0G _ (by omega);rw[a4N]at h1;omega
 have PE:(i*z.size+j)%z.size=j:=by rw[c4G,c9P,d3x hj]
 unfold madeCells;simp[a3E,Z2,PE,hj]
section
variable{P:Program}{E:En}{n:Nat}{ψ:Pl}{s:St}{a:Act}{w:World}
variable{dst:Option Nat}{ty:TypeId}{pos:String}{af:Array Edge}{g:Option (Nat×Bool)}{r:V7}{d:Nat}{K:St->AV->Prop}
theorem ivz:∀{z:List AV} {zi:List IV} {vs:List Value} {A:Nat->Prop} {H:Hp} {w:World},z.mapM AV.iv?=some zi->vs.length=z.length->(∀i x,z[i]? =some x->ZL A ψ H w x (vs.getD i undef))->
 zi.length=z.length/\∀i x,zi[i]? =some x->Yq A w x (vs.getD i undef):=by
 intro z
 induction z with
 |nil=>intro zi vs A H w h hl _;simp at h;subst h;exact⟨rfl,by simp⟩
 |cons x z ih=>
  intro zi vs A H w h hl hc
  cases vs with
  |nil=>simp at hl
  |cons v vs=>
   rw[a0Q]at h
   cases hx:x.iv? with
   |none=>simp[hx]at h
   |some y=>
    cases hq:z.mapM AV.iv? with
    |none=>simp[hx,hq]at h
    |some q=>
     simp[hx,hq]at h;subst h;obtain⟨g1,g2⟩:=ih (vs:=vs) hq (by simpa using hl) (fun i c hi=>by simpa using hc (i+1) c (by simpa using hi));refine⟨by simp[g1],fun i c hi=>?_⟩
     cases i with
     |succ i=>simp only[a5J]at hi;simpa using g2 i c hi
     |zero=>
      simp at hi;subst hi;have h0:=hc 0 x rfl;simp only[c4B]at h0⊢;unfold AV.iv? at hx;split at hx
      ·cases hx;cases h0 with|iv _ _ h=>exact h
      ·cases hx;rw[CJ h0];exact .V5 _
      ·cases hx
theorem e3x{t e:TypeId}{l c:Operand}{i:TypeInfo}{z:List AV}(hu:P.underlying t=some (.slice e))(hi:P.info? e=some i)(hz:QI P e=some z)(F4:z.length=i.size)(hp:0<i.size)
 (hd:d<1000) (h:Z7 E n ψ s a w) (hk:ZQ P d s K (.mks i.size i.bytes z l c)) (DH:Dk z=none):XX P E n ⟨dst, .makeSlice t l c,ty,pos,af,g⟩ a w K:=by
 simp only[ZQ,DH]at hk;have hl:=h.ev l;have hc:=h.ev c;split at hk
 ·rename_i kl m kc q zi h1 h2 hzi;obtain⟨h0,rfl,h62,hb,hk⟩:=hk;rw[h1]at hl;rw[h2]at hc;have el:=Vp hl;have ec:=Vp hc;obtain⟨i',zv,z1,z2,rfl⟩:=DA hz;rw[hi]at z1;cases z1
  have Ya:zv.cells.size=i.size:=by rw[G4]at F4;simpa using F4
  have M3:=h.drop (id:=d) hd
  obtain⟨g1,g2⟩:=ivz (A:=Im E ψ (s.drop d).hp) (ψ:=ψ) (H:=(s.drop d).hp) (w:=w) (vs:=zv.cells.toList) hzi (by rw[G4]) (fun i x hx=>by
   obtain⟨sz,e⟩:=mM _ _ _ _ hx
   rw[e];exact CK _ _)
  have IF:zi.length=i.size:=by rw[g1,F4]
  have XA:=run_make (P:=P) w t e i zv hu hi z2 kl kc q q h0 (d3t _) (by omega) (by omega)
  have hms:(madeCells zv.cells (q.toNat*i.size)).size=q.toNat*i.size:=by rw[size_madeCells]
  refine e0p (sz:=i.size) (xs:=a2N q.toNat zi) (c:=madeCells zv.cells (q.toNat*i.size)) (t:=e) (cap:=q.toNat) (w1:=w) hd M3 (LI s d) (fun x hx=>?_) (by rw[hms,c3B];exact a8F _) (by simp) (by rw[hms];exact a8F _) (by omega) (fun j k x hx=>?_) (Ext.refl w) ?_ (by simpa using hk)
  ·rw[c6u hx];exact IF
  ·obtain⟨row,QP,KC⟩:=IE hx
   have hj:j<q.toNat:=by have:=(a5y.1 QP).1;simpa using this
   have Y8:row=zi:=c6u (a6y QP);subst Y8
   have Vy:k<i.size:=by rw[<-IF];exact(a5y.1 KC).1
   rw[<-Ya,e2x _ _ _ _ hj (by omega), <-Sn];exact g2 k x KC
  ·simp only[execOp,el,ec,Sem.run_bind,XA,Result.andThen_ok,Sem.run_pure,c3B]
 ·exact hk.elim
theorem e4x{sz Zz:Nat}{v:Value}(h:G1 Zz v= .nil sz):v= .slice none 0 0:=by
 unfold G1 at h;split at h
 ·rfl
 ·cases h
 ·cases h
 ·cases h
theorem e5x{o:Oper}{sz m:Nat}{c:Array Value}{t:TypeId}(hd:d<1000)(h:Z7 E n ψ s a w)(YQ:look s.hp d=none)
 (hlen:c.size=m) (hcm:m<2^63) (hc:∀i,i<m->c.getD i undef= .slice none 0 0)
 (hr:(execOp a.eval o).run P w= .ok (.value (.slice (some ⟨w.heap.size,0,none⟩) m m)) (w.alloc (.cells c t)))
 (hk:K (s.add d (.ZI sz (a2N m []) none)) (.sl d 1 0 m)):XX P E n o a w K:=by
 have hx2:Ext w (w.alloc (.cells c t)):=Ext.alloc _ _
 have h2:=h.new (o:= .ZI sz (a2N m []) none) (p:=some (w.heap.size,(0,c.size))) hd YQ hx2 (fun b k e=>by cases e;exact a8F _)
  ⟨by
   simp,w.heap.size,(0,c.size),c,t,fun _=>none,by simp[XE],mL _ _,by simp,by simp[hlen],fun i x Vq _=>(by
   rw[c1S]at Vq;split at Vq
   ·rename_i De;cases Vq;exact⟨by simp, .inl ⟨rfl,rfl,by rw[b5D];exact hc i De⟩⟩
   ·cases Vq),by simp,by simp⟩
 refine Sh hr hk h2 (.sl d 1 0 m w.heap.size (0,c.size) m _ (.ZI sz (a2N m []) none) m (by simp[WL]) (by simp[Ob.dim]) (by omega) (by simp[XE]) (fun _=>by simp) (a8F _) (by simp[hlen]) hcm)
theorem e6x{t e:TypeId}{l c:Operand}{i:TypeInfo}{z:List AV}(hu:P.underlying t=some (.slice e))(hi:P.info? e=some i)(hz:QI P e=some z)(F4:z.length=i.size)(hp:0<i.size)
 (hd:d<1000) (h:Z7 E n ψ s a w) (hk:ZQ P d s K (.mks i.size i.bytes z l c)):XX P E n ⟨dst, .makeSlice t l c,ty,pos,af,g⟩ a w K:=by
 cases DH:Dk z with
 |some Zz=>
  simp only[ZQ,DH]at hk;have hz0:=c6I DH;have hl:=h.ev l;have hc:=h.ev c;split at hk
  ·rename_i kl m kc q h1 h2;obtain⟨h0,rfl,h62,hb,H7,hk⟩:=hk;rw[h1]at hl;rw[h2]at hc;have el:=Vp hl;have ec:=Vp hc;obtain⟨i',zv,z1,z2,Qs⟩:=DA hz;rw[hi]at z1;cases z1;rw[hz0]at Qs
   have Ya:zv.cells.size=1:=by
    have:=congrArg List.length Qs;rw[G4]at this;simpa using this.symm
   have M3:=h.drop (id:=d) hd
   have hzv:zv.cells.toList=[.slice none 0 0]:=by
    have Sl:zv.cells.toList.length=1:=by simpa using Ya
    match hv:zv.cells.toList,Sl with
    | [v],_=>
     rw[hv]at Qs
     cases hcs:oS P 20 e with
     |nil=>rw[hcs]at Qs;simp only[Ov,a4U,and_true]at Qs;rw[e4x Qs.symm]
     |cons x y=>rw[hcs]at Qs;simp only[Ov,a4U,and_true]at Qs;rw[e4x Qs.symm]
   have XA:=run_make (P:=P) w t e i zv hu hi z2 kl kc q q h0 (d3t _) (by omega) (by omega);rw[H7]at XA
   have hms:(madeCells zv.cells (q.toNat*1)).size=q.toNat:=by rw[size_madeCells];omega
   refine e5x (sz:=Zz) (m:=q.toNat) (c:=madeCells zv.cells (q.toNat*1)) (t:=e) hd M3 (LI s d) hms (by omega) (fun j hj=>?_) ?_ hk
   ·have:=e2x zv.cells q.toNat j 0 hj (by omega);rw[Ya,c0Q,c0Q,b1H]at this;rw[c0Q,this, <-Sn,hzv];rfl
   ·simp only[execOp,el,ec,Sem.run_bind,XA,Result.andThen_ok,Sem.run_pure]
  ·exact hk.elim
 |none=>exact e3x hu hi hz F4 hp hd h hk DH
end
section
variable{P:Program}{E:En}{n:Nat}{ψ:Pl}{s:St}{a:Act}{w:World}
variable{dst:Option Nat}{ty:TypeId}{pos:String}{af:Array Edge}{g:Option (Nat×Bool)}{r:V7}{d:Nat}{K:St->AV->Prop}
theorem c0o:∀(z:List AV) (l:List IV),Zg AV.iv? z=some l->z.mapM AV.iv?=some l
 | [],l,h=>by simpa[Zg]using h
 |x::r,l,h=>by
  simp only[Zg]at h;split at h
  ·rename_i y hy
   cases hr:Zg AV.iv? r with
   |none=>rw[hr]at h;cases h
   |some l'=>
    rw[hr]at h;simp only[a8H,a3y]at h;subst h;rw[a0Q,hy,c0o r l' hr];rfl
  ·cases h
theorem c1o{A:Nat->Prop}{H:Hp}{c:List IV}{v:Value}{ag:Bool}(hg:Sz v=ag)(hl:v.cells.size=c.length)(hc:∀i x,c[i]? =some x->Yq A w x (v.cells.getD i undef)):
 ZL A ψ H w (S5 ag (c.map .iv)) v:=
 d4e hg (by simpa using hl) fun i x hx=>by
  rw[a1C]at hx
  cases hi:c[i]? with
  |none=>rw[hi]at hx;cases hx
  |some y=>rw[hi]at hx;cases hx;exact .iv _ _ (hc i y hi)
theorem c2o{t k' e':TypeId}{m k:Operand}{sk:Sk}{z:List AV}(hu:P.underlying t=some (.map k' e'))(UA:MD P k' e'=some sk)(hz:QI P e'=some z)
 (QF:((P.info? e').bind (·.zero)).map Sz=some (XT P e')) (h:Z7 E n ψ s a w) (hk:ZQ P d s K (.IC sk z m k)):
 XX P E n ⟨dst, .mapEntry t m k,ty,pos,af,g⟩ a w K:=by
 simp only[ZQ]at hk;obtain⟨p1,p2,p3,p4⟩:=d2e UA;have hm:=h.ev m;have FJ:=h.ev k;split at hk
 ·rename_i id S3 kk zi FI Rr hzi;split at hk
  ·rename_i Xi gm ho;obtain⟨rfl,rfl,hk⟩:=hk;obtain⟨Xg,Um⟩:=d9d FJ Rr;rw[p3]at Xg;rw[FI]at hm;obtain⟨b,es,clock,hb,hh,UZ,hr⟩:=h.YC id _ ho
   have HN:a.eval m= .map (some b):=by
    generalize a.eval m=vm at hm
    cases hm with
    |mpr _ b' q o' XI XH=>rw[hb]at XH;cases XH;rfl
   have Zq:∀e∈es.toList,Xh e.key=some (XT P k',Xi.2.1):=fun e he=>by rw[<-p3];exact(hr.1 e he).1
   have run:∀v w',(Instr.mapEntry t (.map (some b)) (a.eval k)).run P w= .ok v w'->(execOp a.eval ⟨dst, .mapEntry t m k,ty,pos,af,g⟩).run P w= .ok (.value v) w':=by
    intro v w' XA;simp only[execOp,HN,Sem.run_bind,XA,Result.andThen_ok,Sem.run_pure]
   have f7Q:∀{A:Nat->Prop} {ψ:Pl} {H:Hp} {w:World} {x:AV} {v:Value} {q:Nat},ZL A ψ H w x v->ZL A ψ H w (.Zp [x, .iv (.v (.int .i64 q))]) (.tuple #[v,goInt q]):=by
    intro A ψ H w x v q hx
    refine .Zp _ _ rfl fun i c hc=>?_
    match i,hc with
    | 0,hc=>cases hc;exact hx
    | 1,hc=>cases hc;exact UB rfl
   have Z2:b<w.heap.size:=Vw hh
   have MV:∀(HO:List Value->Option (List IV)) (Wg:Array MapEntry) (YS:Nat) (q:Int),Wm Wg YS->
    (∀{A':Nat->Prop} {w':World},(∀x v,Yq (Im E ψ s.hp) w x v->Yq A' w' x v)->Xw A' w' Xi HO Wg)->(∃e∈Wg.toList,(e.born:Int)=q/\X0 e.key=kk)->
    Z7 E n ψ (s.add id (.WE Xi HO q kk)) a {w with heap:=w.heap.setIfInBounds b (.map Wg YS)}:=by
    intro HO Wg YS q h1 h2 h3;refine h.MV (o':= .WE Xi HO q kk) (k:=(0,0)) ho (Ob.le_none rfl) rfl (by simp[Ob.multi]) hb (fun i hi=>?_) (by simp) ⟨rfl,rfl,rfl,a8F _⟩ (fun _ tr=>⟨b,Wg,YS,hb,?_,h1,h2 tr,h3⟩)
    ·show(w.heap.setIfInBounds b _)[i]? =_
     rw[a6S (Ne.symm hi)]
    ·show(w.heap.setIfInBounds b _)[b]? =_
     simp[Z2]
   rcases oy (w:=w) p1 p2 Xg es.toList Zq with⟨h1,h2⟩|⟨j,e,h1,h2,h3⟩
   ·have YQ:∀e∈es.toList,X0 e.key≠X0 (a.eval k):=fun e he Uh=>h2 e he (e6u (Zq e he) Xg Uh)
    have hgn:gm kk=none:=by
     cases hc:gm kk with
     |none=>rfl
     |some c=>
      obtain⟨e,he,g1,_⟩:=hr.2.2.2 kk c hc;exact absurd (g1.trans Um.symm) (YQ e he)
    obtain⟨i,zv,z1,z2,rfl⟩:=DA hz;rw[z1]at QF;simp only[a9J,z2,a8H,a3y]at QF
    have hzc:∀{A:Nat->Prop} {w:World},zi.length=zv.cells.toList.length/\∀i x,zi[i]? =some x->Yq A w x (zv.cells.toList.getD i undef):=by
     intro A w
     have:=ivz (A:=A) (H:=[]) (w:=w) (vs:=zv.cells.toList) (c0o _ _ hzi) (by rw[G4]) (fun i x hx=>by
      obtain⟨sz,e⟩:=mM _ _ _ _ hx;rw[e]
      exact CK (ψ:=ψ) _ _)
     rw[G4]at this;exact this
    have hl:zv.cells.size=zi.length:=by rw[(hzc (A:=fun _=>True) (w:=w)).1];simp
    have f8Q:∀{A:Nat->Prop} {w:World},∀i x,zi[i]? =some x->Yq A w x (zv.cells.getD i undef):=fun {A w} i x hx=>by rw[<-Sn];exact(hzc (A:=A) (w:=w)).2 i x hx
    rw[hgn,Option.getD_none]at hk
    have XG:=MV (ZH gm kk (some zi)) (es.push {key:=a.eval k,val:=zv,born:=clock}) (clock+1) clock (UZ.push _ rfl)
     (fun tr=>by
      rw[<-Um]
      exact hr.push tr (e:={key:=a.eval k,val:=zv,born:=clock}) YQ ⟨by rw[p3];exact Xg,by rw[p4];exact QF⟩ hl (fun i y hy=>f8Q i y hy))
     ⟨{key:=a.eval k,val:=zv,born:=clock},by simp,rfl,Um⟩
    refine Sh (run (.tuple #[zv,goInt clock]) _ ?_) (hk clock) XG (f7Q (c1o (by rw[p4];exact QF) hl (fun i y hy=>f8Q i y hy)));unfold Instr.mapEntry;simp only[Sem.run_bind,Vm.run_underlying w hu,Result.andThen_ok,HM hh,FH p1 p2 Xg,h1,G3 z1 z2,Cm _ hh,Sem.run_pure]
   ·have he:e∈es.toList:=a6y h2
    have PD:es[j]? =some e:=by rw[<-a1E];exact h2
    obtain⟨c,Np⟩:=hr.2.1 e he;rw[h3,Um]at Np;obtain⟨e2,Fa,g1,g2,g3⟩:=hr.2.2.2 kk c Np;have hee:e2=e:=E9 hr.2.2.1 e2 Fa e he (by rw[g1,h3,Um]);subst hee;rw[Np,a1J]at hk
    have PE:(es.modify j fun e=>{e with key:=a.eval k})=es:=by
     apply b1p;apply b6r;intro i;rw[a1E,a1E,a5N];split
     ·rename_i Wd;subst Wd;rw[PD];simp[<-h3]
     ·rfl
    have HA:ZH gm kk (some c)=gm:=by
     funext q
     by_cases hq:q=kk
     ·subst hq;rw[l6,Np]
     ·rw[oA _ _ hq]
    rw[HA]at hk;have XG:=MV gm es clock e2.born UZ (fun tr=>hr.conv tr fun _=>rfl) ⟨e2,Fa,rfl,g1⟩;refine Sh (run (.tuple #[e2.val,goInt e2.born]) _ ?_) (hk e2.born) XG (f7Q ?_)
    ·unfold Instr.mapEntry
     have YD:(Instr.keyThatStays e2.key (a.eval k)).run P w= .ok (a.eval k) w:=by
      unfold Instr.keyThatStays;simp only[h3,b5r Xg,if_true,Sem.run_pure]
     simp only[Sem.run_bind,Vm.run_underlying w hu,Result.andThen_ok,HM hh,FH p1 p2 Xg,h1,PD,a8H,a1J,YD,PE,Cm _ hh,Sem.run_pure]
    ·have:=XG.YC id _ (by rw[WL,if_pos rfl]);obtain⟨b',Wg,YS,q1,q2,_,q3,_⟩:=this;rw[hb]at q1;cases q1
     have:(w.heap.setIfInBounds b (.map es clock))[b]? =some (.map es clock):=by simp[Z2]
     rw[this]at q2;cases q2;obtain⟨e3,r1,r2,r3,r4⟩:=q3.2.2.2 kk c Np;have:e3=e2:=E9 hr.2.2.1 e3 r1 e2 Fa (by rw[r2,g1]);subst this;exact c1o (by exact(hr.1 e3 Fa).2) r3 r4
  ·exact hk.elim
 ·exact hk.elim
theorem c3o{t:TypeId}{m st x:Operand}(h:Z7 E n ψ s a w)(hk:ZQ P d s K (.est m st x)):XX P E n ⟨dst, .entryStore t m st x,ty,pos,af,g⟩ a w K:=by
 simp only[ZQ]at hk;have hf:=h.YX [s.ev x];generalize s.YX [s.ev x]=s1 at hk hf;have hm:=hf.ev m;have hsv:=hf.ev st;have hx:=hf.ev x;split at hk
 ·rename_i id ki n' c FI YD hcs;split at hk
  ·rename_i sk gm q kk ho;obtain⟨rfl,hag,hk⟩:=hk;rw[FI]at hm;rw[YD]at hsv;have hsv:=Vp hsv;obtain⟨b,es,clock,hb,hh,UZ,hr,e,he,kC,Nl⟩:=hf.YC id _ ho
   have HN:a.eval m= .map (some b):=by
    generalize a.eval m=vm at hm
    cases hm with
    |mpr _ b' q o' XI XH=>rw[hb]at XH;cases XH;rfl
   cases QO:(s1.ev x).cellsOf with
   |none=>rw[QO]at hcs;cases hcs
   |some cs=>
    rw[QO]at hcs;simp only[a9J]at hcs;obtain⟨g1,g2⟩:=nc hx QO;obtain⟨v1,v2⟩:=a9D hf (vs:=(a.eval x).cells.toList) (by simpa using g1) (fun i y hy=>by rw[Sn];exact g2 i y hy) hcs
    have hl:(a.eval x).cells.size=c.length:=by rw[v1];exact g1
    have hv:Sz (a.eval x)=sk.2.2:=by rw[b5s hx QO];exact hag
    have v2':∀i y,c[i]? =some y->Yq (Im E ψ s1.hp) w y ((a.eval x).cells.getD i undef):=fun i y hy=>by rw[<-Sn];exact v2 i y hy
    obtain⟨j,hj⟩:=a9B he
    have PD:es[j]? =some e:=by rw[<-a1E];exact hj
    have Og:es.findIdx? (fun e=>(e.born:Int)==n')=some j:=by
     rw[Array.findIdx?_eq_some_iff_getElem];obtain⟨SJ,nW⟩:=a5y.1 hj;refine⟨by simpa using SJ,by simp only[Array.getElem_toList]at nW;rw[nW];simpa using kC,fun i hi=>?_⟩
     have Zd:i<es.toList.length:=by omega
     intro heq
     have h1:(es.toList.map (·.born))[i]? =some e.born:=by
      rw[a1C,a4G Zd];simp only[a8H,a3y]
      have:(es.toList[i].born:Int)=n':=by simpa using heq
      omega
     have h2:(es.toList.map (·.born))[j]? =some e.born:=by rw[a1C,hj];rfl
     obtain⟨a1,a2⟩:=a5y.1 h1;obtain⟨b1,b2⟩:=a5y.1 h2;exact b5K.1 UZ.2 i j a1 b1 hi (a2.trans b2.symm)
    have Z2:b<w.heap.size:=Vw hh
    have XG:Z7 E n ψ (s1.add id (.map sk (ZH gm kk (some c)))) a {w with heap:=w.heap.setIfInBounds b (.map (es.modify j fun e=>{e with val:=a.eval x}) clock)}:=by
     refine hf.MV (o':= .map sk (ZH gm kk (some c))) (k:=(0,0)) ho (Ob.le_none rfl) rfl (by simp[Ob.multi]) hb (fun i hi=>?_) (by simp) ⟨rfl,rfl,rfl,a8F _⟩
      (fun _ tr=>⟨b,es.modify j fun e=>{e with val:=a.eval x},clock,hb,?_,UZ.modify j (fun e=>{e with val:=a.eval x}) (fun _=>rfl),by have hmm:=hr.modify tr PD hv hl (fun i y hy=>tr _ _ (v2' i y hy));rw[Nl]at hmm;exact hmm⟩)
     ·show(w.heap.setIfInBounds b _)[i]? =_
      rw[a6S (Ne.symm hi)]
     ·show(w.heap.setIfInBounds b _)[b]? =_
      simp[Z2]
    refine oY ?_ hk XG;simp only[execOp,HN,hsv]
    have:(Instr.entryStore t (.map (some b)) (.int ki n') (a.eval x)).run P w= .ok () {w with heap:=w.heap.setIfInBounds b (.map (es.modify j fun e=>{e with val:=a.eval x}) clock)}:=by
     unfold Instr.entryStore;simp only[Sem.run_bind,HM hh,Result.andThen_ok];have:(asInt (.int ki n')).run P w= .ok n' w:=rfl;rw[this];simp only[Result.andThen_ok,Og,Cm _ hh]
    rw[Sem.run_bind,this];rfl
  ·exact hk.elim
 ·exact hk.elim
end
end Go.Vm
end

section
namespace Go.Vm
open Go.ChangeMaps (setBlock)
section
variable{P:Program}{E:En}{n:Nat}{ψ:Pl}{s:St}{a:Act}{w:World}
variable{dst:Option Nat}{ty:TypeId}{pos:String}{af:Array Edge}{g:Option (Nat×Bool)}{r:V7}{d:Nat}{K:St->AV->Prop}
theorem b2X{A:Nat->Prop}{sk:Sk}{gm:List Value->Option (List IV)}{v:Value}(h:Yq A w (.mp sk gm) v):
 (v= .map none/\∀k,gm k=none)\/∃b es clock,v= .map (some b)/\A b/\w.heap[b]? =some (.map es clock)/\Wm es clock/\Xw A w sk gm es:=by
 cases h with
 |mp _ _ b clock es vs hA hh UA XZ YQ YD hg kJ=>
  refine .inr ⟨b,es,clock,rfl,hA,hh,YD,UA,XZ,YQ,fun k c hc=>?_⟩;obtain⟨e,he,g1,g2,g3⟩:=hg k c hc;refine⟨e,he,g1,g2,fun i y hy=>?_⟩;have:=g3 i y hy;rw[show e.val.cells.getD i undef=vs k i from by simp[a3E,this]];exact kJ k c hc i y hy
 |Mp _ _ hn=>exact .inl ⟨rfl,hn⟩
theorem b3X{v:Value}{ag:Bool}{ks:List Kd}(h:Xh v=some (ag,ks)):(X0 v).mapM Y0=some ks:=by
 rcases FN h with⟨cs,rfl,_,h1,h2⟩|⟨k,_,rfl,h1,h2⟩
 ·rw[h2];exact h1
 ·rw[h2];simp[h1]
theorem b4X{v:Value}{k:Kd}(h:Y0 v=some k):v.oneCell'=true:=(e4u h).2.1
theorem b5X:∀{l:List Value} {ks:List Kd},l.mapM Y0=some ks->∀x∈l,∃k,Y0 x=some k
 | [],_,_,x,hx=>by cases hx
 |y::r,ks,h,x,hx=>by
  rw[a0Q]at h
  cases h1:Y0 y with
  |none=>rw[h1]at h;cases h
  |some k1=>
   rw[h1]at h
   cases h2:r.mapM Y0 with
   |none=>rw[h2]at h;cases h
   |some k2=>
    rcases a5E.1 hx with rfl|hx
    ·exact⟨k1,h1⟩
    ·exact b5X h2 x hx
theorem b6X{A:Nat->Prop}{H:Hp}{v:Value}{ag:Bool}{ks:List Kd}(h:Xh v=some (ag,ks)):ZL A ψ H w (S5 ag ((X0 v).map fun v=> .iv (.v v))) v:=by
 have hk:=b3X h
 refine d4e ?_ (by simp[X0]) fun i x hx=>?_
 ·rcases FN h with⟨cs,rfl,rfl,_,_⟩|⟨k,rfl,_,h1,_⟩
  ·rfl
  ·cases v<;>first|rfl|simp[Y0]at h1
 ·rw[a1C]at hx
  cases hi:(X0 v)[i]? with
  |none=>rw[hi]at hx;cases hx
  |some y=>
   rw[hi]at hx;cases hx;obtain⟨k,SS⟩:=b5X hk y (a6y hi)
   have e:v.cells.getD i undef=y:=by
    rw[<-Sn];have:v.cells.toList[i]? =some y:=hi;simp[a7V,this]
   rw[e];exact UB (b4X SS)
theorem b7X{t k' e':TypeId}{x:Operand}{sk:Sk}(hu:P.underlying t=some (.map k' e'))(hd:d<1000)(h:Z7 E n ψ s a w)(hk:ZQ P d s K (.QB sk x)):
 XX P E n ⟨dst, .range t x,ty,pos,af,g⟩ a w K:=by
 simp only[ZQ]at hk;have hf:=(h.YX [s.ev x]).drop (id:=d) hd;have YQ:=LI (s.YX [s.ev x]) d;generalize (s.YX [s.ev x]).drop d=s1 at hk hf YQ;have hx:=hf.ev x;split at hk
 ·rename_i Dj gm LK;obtain⟨rfl,hk⟩:=hk;rw[LK]at hx
  have hr:Yq (Im E ψ s1.hp) w (.mp Dj gm) (a.eval x):=by cases hx with|iv _ _ h=>exact h
  rcases b2X hr with⟨hv,hn⟩|⟨b,es,clock,hv,hA,hh,UZ,hm⟩
  ·have h2:=hf.new (o:= .iter Dj gm [] none) (p:=some (w.heap.size,(0,0))) hd YQ (Ext.alloc w (.mapIter none 0 #[] 0)) (fun b k e=>by cases e;exact a8F _)
    ⟨w.heap.size,none,0, #[],0,by simp[XE],mL _ _, .inl ⟨rfl,rfl,rfl,hn⟩⟩
   refine Sh (v:= .pointer (some ⟨w.heap.size,0,none⟩)) (w':=w.alloc (.mapIter none 0 #[] 0)) ?_ (hk [] (by simp) (by simp[hn]) (by simp)) h2 (.ptr d 0 w.heap.size (0,0) _ (by simp[WL];rfl) (by simp[XE]));simp only[execOp,hv,Sem.run_bind,run_range_nilMap w t k' e' hu,Result.andThen_ok,Sem.run_pure]
  ·have hmk:∀q,q∈es.toList.map (fun e=>X0 e.key)↔gm q≠none:=by
    intro q;constructor
    ·intro hq;obtain⟨e,he,rfl⟩:=a0E.1 hq;obtain⟨c,hc⟩:=hm.2.1 e he;rw[hc];simp
    ·intro hq
     cases hc:gm q with
     |none=>exact absurd hc hq
     |some c=>
      obtain⟨e,he,g1,_⟩:=hm.2.2.2 q c hc;exact a0E.2 ⟨e,he,g1⟩
   have C3:b<w.heap.size:=Vw hh
   have h2:=hf.new (o:= .iter Dj gm (es.toList.map fun e=>X0 e.key) none) (p:=some (w.heap.size,(0,0))) hd YQ (Ext.alloc w (.mapIter (some b) clock #[] clock)) (fun b k e=>by cases e;exact a8F _)
    ⟨w.heap.size,some b,clock, #[],clock,by simp[XE],mL _ _, .inr ⟨b,es,rfl,⟨C3,hA⟩,by rw[(Ext.alloc w _).block b C3];exact hh,rfl,UZ,
     hm.mono (fun b hb hi=>⟨hb,hi⟩) (fun b hb _=>(Ext.alloc w _).block b hb),hm.2.2.1,fun e he=>⟨fun _=>by simp,fun _=>a0E.2 ⟨e,he,rfl⟩⟩,fun q hq=>by
      obtain⟨e,he,rfl⟩:=a0E.1 hq
      exact⟨e,he,rfl⟩, .inl rfl⟩⟩
   refine Sh (v:= .pointer (some ⟨w.heap.size,0,none⟩)) (w':=w.alloc (.mapIter (some b) clock #[] clock)) ?_
    (hk (es.toList.map fun e=>X0 e.key) hm.2.2.1 hmk (fun q hq=>by
     obtain⟨e,he,rfl⟩:=a0E.1 hq
     exact b3X (hm.1 e he).1)) h2 (.ptr d 0 w.heap.size (0,0) _ (by simp[WL];rfl) (by simp[XE]))
   simp only[execOp,hv,Sem.run_bind,run_range_map w t k' e' b es clock hu hh,Result.andThen_ok,Sem.run_pure]
 ·exact hk.elim
theorem b8X{k q:List Value}{l:List (List Value)}:q∈Ou k l↔q∈l/\q≠k:=by
 classical
 simp[Ou]
theorem b9X{k:List Value}{l:List (List Value)}(h:l.Nodup):(Ou k l).Nodup:=h.sublist (List.filter_sublist)
theorem b0Y{A:Nat->Prop}{H:Hp}{x y:AV}{u v:Value}(hx:ZL A ψ H w x u)(hy:ZL A ψ H w y v):ZL A ψ H w (.Zp [x,y]) (.tuple #[u,v]):=by
 refine .Zp _ _ rfl fun i c hc=>?_
 match i,hc with
 | 0,hc=>cases hc;exact hx
 | 1,hc=>cases hc;exact hy
theorem b1Y{A:Nat->Prop}{H:Hp}{x y z:AV}{u v t:Value}(hx:ZL A ψ H w x u)(hy:ZL A ψ H w y v)(hz:ZL A ψ H w z t):ZL A ψ H w (.Zp [x,y,z]) (.tuple #[u,v,t]):=by
 refine .Zp _ _ rfl fun i c hc=>?_
 match i,hc with
 | 0,hc=>cases hc;exact hx
 | 1,hc=>cases hc;exact hy
 | 2,hc=>cases hc;exact hz
theorem b2Y{x:Operand}(h:Z7 E n ψ s a w)(hk:ZQ P d s K (.nxt x)):XX P E n ⟨dst, .next x false,ty,pos,af,g⟩ a w K:=by
 simp only[ZQ]at hk;have hx:=h.ev x;split at hk
 ·rename_i id LK;rw[LK]at hx;obtain⟨b0,k0,o0,hlo,Ts,hv⟩:=CS hx;split at hk
  ·rename_i sk gm left last ho;obtain⟨M0,Xg⟩:=hk;obtain⟨b,m,since,stamps,Yx,hb,hh,X4⟩:=h.YC id _ ho
   have e0:b0=b:=by rw[hb]at Ts;cases Ts;rfl
   rw[e0]at hv
   have run:∀v w',(Instr.next (.pointer (some ⟨b,0,none⟩)) false ty).run P w= .ok v w'->(execOp a.eval ⟨dst, .next x false,ty,pos,af,g⟩).run P w= .ok (.value v) w':=by
    intro v w' XA;simp only[execOp,hv,Sem.run_bind,XA,Result.andThen_ok,Sem.run_pure]
   have one:∀{A:Nat->Prop} {ψ:Pl} {H:Hp} {w:World},ZL A ψ H w (.Zp [.iv (.v (.bool false))]) (.tuple #[.bool false]):=by
    intro A ψ H w
    refine .Zp _ _ rfl fun i c hc=>?_
    match i,hc with
    | 0,hc=>cases hc;exact UB rfl
   rcases X4 with⟨rfl,rfl,rfl,hn⟩|⟨bm,es,rfl,hA,hm,rfl,UZ,hr,VM,Sl,MU,ot⟩
   ·refine Sh (run _ w ?_) (M0 rfl) h one;simp only[Instr.next,getObj,Sem.run_bind,Sem.run,hh,Result.andThen];rfl
   ·rcases run_next_at (P:=P) w ty b bm Yx Yx stamps es Yx hh hm UZ.1 (a8F _)with⟨h0,XA⟩|⟨e,he,w1,Wp,XA⟩
    ·have f8P:left=[]:=by
      cases Vc:left with
      |nil=>rfl
      |cons q r=>
       exfalso
       obtain⟨e,he,hq⟩:=MU q (by rw[Vc];simp);have:=(Sl e he).1 (by rw[hq,Vc];simp)
       have WA:e∈leftOf es stamps:=by
        unfold leftOf;simp only[d0l,b1K,c5U,decide_eq_false_iff_not];exact⟨by simpa using he,by simpa using this⟩
       have:=Array.size_pos_of_mem WA;omega
     subst f8P;exact Sh (run _ w XA) (M0 rfl) h one
    ·have XF:e∈es.toList/\e.born∉stamps.toList:=by
      have:e∈leftOf es stamps:=by simpa using he
      unfold leftOf at this;simp only[d0l,b1K,c5U,decide_eq_false_iff_not]at this;exact⟨by simpa using this.1,by simpa using this.2⟩
     obtain⟨MZ,Fa⟩:=XF;have XZ:X0 e.key∈left:=(Sl e MZ).2 Fa;obtain⟨c,hc⟩:=hr.2.1 e MZ;obtain⟨e2,q1,q2,q3,q4⟩:=hr.2.2.2 _ c hc;have:e2=e:=E9 hr.2.2.1 e2 q1 e MZ q2;subst this;have Uh:=Xg (X0 e2.key) c XZ hc (b3X (hr.1 e2 MZ).1);have f9P:b<w.heap.size:=Vw hh
     have Pp:w1.heap=w.heap/\w1.os=w.os/\w1.tape=w.tape/\w1.output=w.output/\w.drawn<=w1.drawn:=by rcases Wp with rfl|rfl<;>first|exact⟨rfl,rfl,rfl,rfl,a8F _⟩|exact⟨rfl,rfl,rfl,rfl,Nat.le_succ _⟩
     have ZV:bm≠b:=by rintro rfl;rw[hh]at hm;cases hm
     have XG:Z7 E n ψ (s.add id (.iter sk gm (Ou (X0 e2.key) left) (some (X0 e2.key)))) a (setBlock w1 b (.mapIter (some bm) Yx (stamps.push e2.born) Yx)):=by
      refine h.MV (o':= .iter sk gm (Ou (X0 e2.key) left) (some (X0 e2.key))) (k:=(0,0)) ho (Ob.le_none rfl) rfl (by simp[Ob.multi]) hb (fun i hi=>?_) (by simp[setBlock,Pp.1]) ⟨Pp.2.1,Pp.2.2.1,Pp.2.2.2⟩
       (fun _ tr=>⟨b,some bm,Yx,stamps.push e2.born,Yx,hb,?_, .inr ⟨bm,es,rfl,?_,?_,rfl,UZ,hr.conv tr fun _=>rfl,b9X VM,fun e he=>?_,fun q hq=>MU q (b8X.1 hq).1, .inr ⟨e2,MZ,stamps,rfl,rfl⟩⟩⟩)
      ·show(w1.heap.setIfInBounds b _)[i]? =_
       rw[a6S (Ne.symm hi),Pp.1]
      ·show(w1.heap.setIfInBounds b _)[b]? =_
       rw[Pp.1];simp[f9P]
      ·refine⟨hA.1,?_⟩;rintro⟨j,ob,hj,hq⟩;rw[WL]at hj
       by_cases e:id=j
       ·subst e;exact hA.2 ⟨id,_,ho,hq⟩
       ·rw[if_neg e]at hj;exact hA.2 ⟨j,ob,hj,hq⟩
      ·show(w1.heap.setIfInBounds b _)[bm]? =_
       rw[a6S (Ne.symm ZV),Pp.1];exact hm
      ·rw[b8X,Sl e he,a8U,a9E,a1B];constructor
       ·rintro⟨h1,h2⟩ (h3|h3)
        ·exact h1 h3
        ·have:(es.toList.map (·.born)).Nodup:=UZ.2;exact h2 (congrArg (fun e=>X0 e.key) (E9 this e he e2 MZ h3))
       ·intro h1;refine⟨fun h2=>h1 (.inl h2),fun h2=>h1 (.inr ?_)⟩;rw[E9 hr.2.2.1 e he e2 MZ h2]
     have f0Q:∀i y,c[i]? =some y->Yq (Im E ψ (s.add id (.iter sk gm (Ou (X0 e2.key) left) (some (X0 e2.key)))).hp) (setBlock w1 b (.mapIter (some bm) Yx (stamps.push e2.born) Yx)) y (e2.val.cells.getD i undef):=by
      obtain⟨b',m',si',st',lc',r1,r2,r3⟩:=XG.YC id _ (by rw[WL,if_pos rfl])
      rcases r3 with⟨_,_,r3,_⟩|⟨bm',Wg,r4,_,r5,_,_,r6,_⟩
      ·cases r3
      ·rw[hb]at r1;cases r1
       have e1:(setBlock w1 b (.mapIter (some bm) Yx (stamps.push e2.born) Yx)).heap[b]? =some (.mapIter (some bm) Yx (stamps.push e2.born) Yx):=by
        show(w1.heap.setIfInBounds b _)[b]? =_
        rw[Pp.1];simp[f9P]
       rw[e1]at r2;cases r2;cases r4
       have e3:(setBlock w1 b (.mapIter (some bm) Yx (stamps.push e2.born) Yx)).heap[bm]? =some (.map es Yx):=by
        show(w1.heap.setIfInBounds b _)[bm]? =_
        rw[a6S (Ne.symm ZV),Pp.1];exact hm
       rw[e3]at r5;cases r5;obtain⟨e4,t1,t2,t3,t4⟩:=r6.2.2.2 _ c hc;have:e4=e2:=E9 hr.2.2.1 e4 t1 e2 MZ t2;subst this;exact t4
     exact Sh (run _ _ XA) Uh XG (b1Y (UB rfl) (b6X (hr.1 e2 MZ).1) (c1o (hr.1 e2 MZ).2 q3 f0Q))
  ·exact hk.elim
 ·exact hk.elim
theorem b3Y{x:Operand}(h:Z7 E n ψ s a w)(hk:ZQ P d s K (.SK x)):XX P E n ⟨dst, .entry x,ty,pos,af,g⟩ a w K:=by
 simp only[ZQ]at hk;have hx:=h.ev x;split at hk
 ·rename_i id LK;rw[LK]at hx;obtain⟨b0,k0,o0,hlo,Ts,hv⟩:=CS hx;split at hk
  ·rename_i sk gm left k ho;obtain⟨b,m,since,stamps,Yx,hb,hh,X4⟩:=h.YC id _ ho
   have e0:b0=b:=by rw[hb]at Ts;cases Ts;rfl
   rw[e0]at hv
   rcases X4 with⟨_,_,hl,_⟩|⟨bm,es,rfl,hA,hm,rfl,UZ,hr,VM,Sl,MU,ot⟩
   ·cases hl
   ·rcases ot with ot|⟨e,he,seen,rfl,Dr⟩
    ·cases ot
    ·simp only[a3y]at Dr;subst Dr;obtain⟨c,hc⟩:=hr.2.1 e he;obtain⟨e2,q1,q2,q3,q4⟩:=hr.2.2.2 _ c hc;have:e2=e:=E9 hr.2.2.1 e2 q1 e he q2;subst this;refine e8n h ?_ (hk c hc) (b0Y (b6X (hr.1 e2 he).1) (c1o (hr.1 e2 he).2 q3 q4))
     simp only[execOp,hv,Sem.run_bind,run_entry_at (P:=P) w b bm Yx seen es Yx e2 hh hm he UZ.2,Result.andThen_ok,Sem.run_pure]
  ·exact hk.elim
 ·exact hk.elim
end
section
variable{P:Program}{E:En}{n:Nat}{ψ:Pl}{s:St}{a:Act}{w:World}
variable{dst:Option Nat}{ty:TypeId}{pos:String}{af:Array Edge}{g:Option (Nat×Bool)}{r:V7}{d:Nat}{K:St->AV->Prop}
theorem Ug.TK{H:Hp}(h:Ug ψ H w){id b:Nat}{o:Ob}(ho:look H id=some o)(hb:ψ.sub id b)(k:Nat×Nat):ψ id≠some (b,k):=(h id o b ho hb).2.2 k
theorem d5g{β:Type}(g:List Value->Option β)(k:List Value)(c:Option β):ZH g k c k=c:=by simp[ZH]
theorem d6g{β:Type}(g:List Value->Option β){k q:List Value}(c:Option β)(h:q≠k):ZH g k c q=g q:=by simp[ZH,h]
theorem Z7.qR(h:Z7 E n ψ s a w){id d:Nat}(hd:d<1000)(YQ:look s.hp d=none){sk:Sk}{sz:Nat}{g:List Value->Option (List (List IV))}
 (ho:look s.hp id=some (.YA sk sz g none)) {kk:List Value} {xs:List (List IV)} (hg:g kk=some xs) {b0 D5:Nat} {es0:Array MapEntry} (Ts:ψ id=some (b0,(0,0))) (hh0:w.heap[b0]? =some (.map es0 D5))
 {e0:MapEntry} (HE:e0∈es0.toList) (M0:X0 e0.key=kk):
 ∃Zj,Z7 E n Zj ((s.add id (.YA sk sz (ZH g kk none) (some kk))).add d (.YN id sz xs)) a w∧
  ZL (Im E Zj ((s.add id (.YA sk sz (ZH g kk none) (some kk))).add d (.YN id sz xs)).hp) Zj ((s.add id (.YA sk sz (ZH g kk none) (some kk))).add d (.YN id sz xs)).hp w (.sl d sz 0 xs.length) e0.val:=by
 obtain⟨b,es,clock,pl,h1,h2,h3,h4,h5,h6,h7,h8,h9,UI,Tl⟩:=h.YC id _ ho;rw[h1]at Ts;cases Ts;rw[h2]at hh0;cases hh0;obtain⟨e9,he9,hk9,Y9⟩:=h9 kk xs hg;have:e9=e0:=E9 h6 e9 he9 e0 HE (by rw[hk9,M0]);subst this
 have ZV:id≠d:=by rintro rfl;rw[ho]at YQ;cases YQ
 generalize hp:pl kk=p at Y9
 have FD:∀b q,p=some (b,q)->ψ.sub id b:=fun b q e=>UI kk xs b q hg (hp.trans e)
 let Zj:Pl:=⟨fun j=>if j=d then p else ψ j,fun j b=>if j=id then ψ.sub id b/\∀q,p≠some (b,q)else j≠d/\ψ.sub j b⟩
 generalize Tt:(s.add id (.YA sk sz (ZH g kk none) (some kk))).add d (.YN id sz xs)=s2
 have Xj:∀j,look s2.hp j=if d=j then some (.YN id sz xs)else if id=j then some (.YA sk sz (ZH g kk none) (some kk))else look s.hp j:=by
  intro j;rw[<-Tt,WL,WL]
 have o1:∀{b},ZZ Zj d b->∃q,p=some (b,q):=by
  intro b hb
  rcases hb with⟨q,hb⟩|hb
  ·exact⟨q,by simpa[Zj]using hb⟩
  ·simp[Zj,Ne.symm ZV]at hb
 have o2:∀{b},ZZ Zj id b↔(∃k,ψ id=some (b,k))\/(ψ.sub id b/\∀q,p≠some (b,q)):=by
  intro b;simp[ZZ,Zj,ZV]
 have o3:∀{j b},j≠d->j≠id->(ZZ Zj j b↔ZZ ψ j b):=by
  intro j b Ce QM;simp[ZZ,Zj,Ce,QM]
 have Fv:∀{b},ZZ Zj id b->ZZ ψ id b:=by
  intro b hb
  rcases o2.1 hb with h|h
  ·exact .inl h
  ·exact .inr h.1
 have od:∀{b},ZZ Zj d b->ZZ ψ id b:=by
  intro b hb;obtain⟨q,hq⟩:=o1 hb;exact .inr (FD b q hq)
 have back:∀{j o b},look s2.hp j=some o->ZZ Zj j b->∃j' o',look s.hp j'=some o'/\ZZ ψ j' b/\(j'=if j=d then id else j):=by
  intro j o b hj hb;rw[Xj]at hj
  by_cases e1:d=j
  ·subst e1;exact⟨id,_,ho,od hb,by simp⟩
  ·rw[if_neg e1]at hj
   by_cases e2:id=j
   ·subst e2;exact⟨id,_,ho,Fv hb,by simp[ZV]⟩
   ·rw[if_neg e2]at hj;exact⟨j,o,hj,(o3 (Ne.symm e1) (Ne.symm e2)).1 hb,by simp[Ne.symm e1]⟩
 have held:∀b,ZD Zj s2.hp b->ZD ψ s.hp b:=by
  rintro b ⟨j,o,hj,hb⟩;obtain⟨j',o',q1,q2,_⟩:=back hj hb;exact⟨j',o',q1,q2⟩
 have hI:∀b,b<w.heap.size->Im E ψ s.hp b->Im E Zj s2.hp b:=fun b _ hi=>⟨hi.1,fun hh=>hi.2 (held b hh)⟩
 have Wf:U8 ψ Zj s.hp s2.hp:=by
  intro j o hj
  have Sx:j≠d:=by rintro rfl;rw[YQ]at hj;cases hj
  refine⟨?_,by simp[Zj,Sx]⟩
  by_cases e2:id=j
  ·subst e2;rw[ho]at hj;cases hj;exact⟨_,by rw[Xj,if_neg (Ne.symm Sx),if_pos rfl],Ob.le_none rfl⟩
  ·exact⟨o,by rw[Xj,if_neg (Ne.symm Sx),if_neg e2];exact hj,o.le_refl⟩
 have Px:Zj d=p:=by simp[Zj]
 have Fu:look s2.hp d=some (.YN id sz xs):=by rw[Xj,if_pos rfl]
 refine⟨Zj,{size:=h.size,defers:=h.defers.mono hI (fun _ _ _=>rfl),frame:=fun t=>?_,YC:=?_,inj:=?_,own:=?_,YU:=?_,par:=?_,old:=h.old,grow:=h.grow,same:=h.same},?_⟩
 ·have:s2.get t=s.get t:=by rw[<-Tt];rfl
  rw[this];exact(h.frame t).mono hI (fun _ _ _=>rfl) Wf
 ·intro j o hj;rw[Xj]at hj
  by_cases e1:d=j
  ·subst e1;rw[if_pos rfl]at hj;cases hj;obtain⟨Qr,⟨q1,q2,q3⟩|⟨b',k',cap,ad,q1,q2,q3,q4,q5,q6,c,e,r1,r2,r3,r4⟩⟩:=Y9
   ·exact⟨Qr, .inl ⟨by rw[Px];exact q1,q2⟩⟩
   ·exact⟨Qr, .inr ⟨b',k',c,e,by rw[Px];exact q1,r1,r2,r3,fun i j x hx=>(r4 i j x hx).mono hI (fun _ _ _=>rfl)⟩⟩
  ·rw[if_neg e1]at hj
   by_cases e2:id=j
   ·subst e2;rw[if_pos rfl]at hj;cases hj;refine⟨b0,es0,D5,pl,by simp[Zj,ZV];exact h1,h2,h3,h4,h5,h6,fun e he=>?_,fun k hk=>?_,fun k ys hk=>?_,fun k ys b' q hk hq=>?_,fun k ys k' ys' b' q q' hk SS hq Vz=>?_⟩
    ·by_cases Nl:X0 e.key=kk
     ·exact .inl (by rw[Nl])
     ·rcases h7 e he with h|⟨ys,h⟩
      ·cases h
      ·exact .inr ⟨ys,by rw[d6g _ _ Nl];exact h⟩
    ·simp only[a3y]at hk;subst hk;exact⟨d5g _ _ _,e9,he9,hk9⟩
    ·have Uh:k≠kk:=by rintro rfl;rw[d5g]at hk;cases hk
     rw[d6g _ _ Uh]at hk;obtain⟨e,q1,q2,q3⟩:=h9 k ys hk;exact⟨e,q1,q2,q3.mono hI (fun _ _ _=>rfl) (fun _ _ _=>rfl)⟩
    ·have Uh:k≠kk:=by rintro rfl;rw[d5g]at hk;cases hk
     rw[d6g _ _ Uh]at hk;simp only[Zj,if_true];exact⟨UI k ys b' q hk hq,fun q' e=>Uh (Tl k ys kk xs b' q q' hk hg hq (hp.trans e))⟩
    ·have Uh:k≠kk:=by rintro rfl;rw[d5g]at hk;cases hk
     have Nd:k'≠kk:=by rintro rfl;rw[d5g]at SS;cases SS
     rw[d6g _ _ Uh]at hk;rw[d6g _ _ Nd]at SS;exact Tl k ys k' ys' b' q q' hk SS hq Vz
   ·rw[if_neg e2]at hj;exact(h.YC j o hj).mono hI (fun _ _ _=>rfl) Wf ⟨by simp[Zj,Ne.symm e1],fun b hb=>by simp only[Zj,if_neg (Ne.symm e2)];exact⟨Ne.symm e1,hb⟩⟩ (fun _ _=>rfl)
 ·intro i i' oi oi' b hi Vg hb XH;obtain⟨j,oj,q1,q2,q3⟩:=back hi hb;obtain⟨j',oj',Sb,NL,MJ⟩:=back Vg XH;have Hg:=h.inj j j' oj oj' b q1 Sb q2 NL
  have Nv:∀{b},ZZ Zj d b->ZZ Zj id b->False:=by
   intro b h1 h2;obtain⟨q,hq⟩:=o1 h1
   rcases o2.1 h2 with⟨k,h2⟩|⟨_,h2⟩
   ·exact h.YU.TK ho (FD b q hq) k h2
   ·exact h2 q hq
  by_cases e1:i=d
  ·by_cases e2:i'=d
   ·rw[e1,e2]
   ·rw[if_pos e1]at q3;rw[if_neg e2]at MJ
    have:i'=id:=by rw[<-MJ, <-Hg,q3]
    subst e1;subst this;exact(Nv hb XH).elim
  ·by_cases e2:i'=d
   ·rw[if_neg e1]at q3;rw[if_pos e2]at MJ
    have:i=id:=by rw[<-q3,Hg,MJ]
    subst e2;subst this;exact(Nv XH hb).elim
   ·rw[if_neg e1]at q3;rw[if_neg e2]at MJ;rw[<-q3, <-MJ,Hg]
 ·intro i oi b hi hb;rw[Xj]at hi
  by_cases e1:d=i
  ·subst e1;rw[if_pos rfl]at hi;cases hi;have:=h.own id _ b ho (od hb);exact this
  ·rw[if_neg e1]at hi
   by_cases e2:id=i
   ·subst e2;rw[if_pos rfl]at hi;cases hi;have:=h.own id _ b ho (Fv hb);exact this
   ·rw[if_neg e2]at hi;exact h.own i oi b hi ((o3 (Ne.symm e1) (Ne.symm e2)).1 hb)
 ·intro i oi b hi hb;rw[Xj]at hi
  by_cases e1:d=i
  ·subst e1;simp[Zj,Ne.symm ZV]at hb
  ·rw[if_neg e1]at hi
   by_cases e2:id=i
   ·subst e2;rw[if_pos rfl]at hi;cases hi
    have hb:ψ.sub id b:=by simp only[Zj,if_true]at hb;exact hb.1
    obtain⟨_,r2,r3⟩:=h.YU id _ b ho hb;exact⟨rfl,r2,fun k=>by simp only[Zj,if_neg ZV];exact r3 k⟩
   ·rw[if_neg e2]at hi
    have hb:ψ.sub i b:=by simp only[Zj,if_neg (Ne.symm e2)]at hb;exact hb.2
    obtain⟨r1,r2,r3⟩:=h.YU i oi b hi hb;exact⟨r1,r2,fun k=>by simp only[Zj,if_neg (Ne.symm e1)];exact r3 k⟩
 ·intro i hi
  have:i≠d:=by have:=E.big i hi;omega
  simp only[Zj,if_neg this];exact h.par i hi
 ·obtain⟨Qr,⟨q1,q2,q3⟩|⟨b',k',cap,ad,q1,q2,q3,q4,q5,q6,_⟩⟩:=Y9
  ·subst q2;rw[q3];exact .UR d sz _ 0 Fu rfl (by rw[Px];exact q1)
  ·rw[q2];exact .sl d sz 0 xs.length b' k' cap ad _ xs.length Fu rfl (by omega) (by rw[Px];exact q1) (fun hc=>by rw[q3 hc];simp) q4 (by simpa using q5) q6
theorem d7g{A:Nat->Prop}{H:Hp}{id sz:Nat}{xs:List (List IV)}{o:Ob}{v:Value}(he:o.TQ=some (sz,xs))(hl:look H id=some o)(ho:WU A ψ H w id o)
 (hv:ZL A ψ H w (.sl id sz 0 xs.length) v):SZ A w sz xs (ψ id) v:=by
 obtain⟨h0,X4⟩:=c0R he ho;refine⟨h0,?_⟩;obtain⟨o',m,q1,q2,q3,hc⟩:=HS hv
 rcases hc with⟨p1,p2,p3,p4⟩|⟨b,k,cap,ad,p1,p2,p3,p4,p5⟩
 ·exact .inl ⟨p1,a2S p3,p4⟩
 ·rcases X4 with⟨r1,_⟩|⟨b',k',c,e,r1,r2,r3,r4,r5⟩
  ·rw[r1]at p1;cases p1
  ·rw[r1]at p1;cases p1;refine .inr ⟨b,k,cap,ad,r1,p5,fun hc=>by rw[p2 hc];simp,p3,by simpa using p4,?_,c,e,r2,r3,r4,r5⟩;rw[p5]at hv;exact b4P hv
theorem d8g(d k:Nat):look (s.kill d).hp k=if k=d then none else(look s.hp k).map (Ob.ZS (AV.kc (· ==d))):=by
 show look ((s.ZS (AV.kc (· ==d))).hp.filter (·.1 != d)) k=_
 rw[G0,GQ]
theorem Z7.nJ(h:Z7 E n ψ s a w){id d:Nat}(hd:d<1000)(ZV:d≠id){sk:Sk}{sz:Nat}{g:List Value->Option (List (List IV))}{hole:Option (List Value)}
 (ho:look s.hp id=some (.YA sk sz g hole)) {kk:List Value} {xs:List (List IV)} {o:Ob} (Tn:look s.hp d=some o) (Xm:o.TQ=some (sz,xs)) (Sy:o.org?=none\/o.org?=some id)
 (X4:hole=some kk\/(hole=none/\g kk=none)) {v:Value} (hv:ZL (Im E ψ s.hp) ψ s.hp w (.sl d sz 0 xs.length) v) {b clock YS:Nat} {es Wg:Array MapEntry} (hb:ψ id=some (b,(0,0))) (hh:w.heap[b]? =some (.map es clock))
 (UZ:Wm Wg YS) (VM:(Wg.toList.map fun e=>X0 e.key).Nodup) (g2P:∀e∈Wg.toList,Fits sk e) (FM:∃e∈Wg.toList,X0 e.key=kk/\e.val=v)
 (hold:∀e∈Wg.toList,X0 e.key≠kk->e∈es.toList) (Zq:∀e∈es.toList,X0 e.key≠kk->e∈Wg.toList):
 ∃Zj,Z7 E n Zj ((s.kill d).add id (.YA sk sz (ZH g kk (some xs)) none)) a (setBlock w b (.map Wg YS)):=by
 obtain⟨b1,es1,g3P,pl,h1,h2,h3,h4,h5,h6,h7,h8,h9,UI,Tl⟩:=h.YC id _ ho;rw[h1]at hb;cases hb;rw[h2]at hh;cases hh;have Y9:=d7g Xm Tn (h.YC d o Tn) hv;have hmul:o.multi=false:=c5R Xm
 let Zj:Pl:=⟨fun j=>ψ j,fun j b=>(j=id/\∃k,ψ d=some (b,k))\/ψ.sub j b⟩
 generalize Tt:(s.kill d).add id (.YA sk sz (ZH g kk (some xs)) none)=s2
 have Xj:∀j,look s2.hp j=if id=j then some (.YA sk sz (ZH g kk (some xs)) none)else if j=d then none else(look s.hp j).map (Ob.ZS (AV.kc (· ==d))):=by
  intro j;rw[<-Tt,WL,d8g]
 have Fv:∀{b},ZZ Zj id b↔ZZ ψ id b\/∃k,ψ d=some (b,k):=by
  intro b;simp only[ZZ,Zj,true_and];constructor
  ·rintro(h|h|h)
   ·exact .inl (.inl h)
   ·exact .inr h
   ·exact .inl (.inr h)
  ·rintro((h|h)|h)
   ·exact .inl h
   ·exact .inr (.inr h)
   ·exact .inr (.inl h)
 have o3:∀{j b},j≠id->(ZZ Zj j b↔ZZ ψ j b):=by
  intro j b hj;simp[ZZ,Zj,hj]
 have back:∀{j o2 b},look s2.hp j=some o2->ZZ Zj j b->j≠d/\((∃o',look s.hp j=some o'/\ZZ ψ j b)\/(j=id/\ZZ ψ d b)):=by
  intro j o2 b hj hb;rw[Xj]at hj
  by_cases e1:id=j
  ·subst e1;refine⟨Ne.symm ZV,?_⟩
   rcases Fv.1 hb with hb|⟨k,hb⟩
   ·exact .inl ⟨_,ho,hb⟩
   ·exact .inr ⟨rfl, .inl ⟨k,hb⟩⟩
  ·rw[if_neg e1]at hj;split at hj
   ·cases hj
   ·rename_i Sx
    cases hl:look s.hp j with
    |none=>rw[hl]at hj;cases hj
    |some o'=>exact⟨Sx, .inl ⟨o',rfl,(o3 (Ne.symm e1)).1 hb⟩⟩
 have held:∀b,ZD Zj s2.hp b->ZD ψ s.hp b:=by
  rintro b ⟨j,o2,hj,hb⟩;obtain⟨_,⟨o',q1,q2⟩|⟨_,q2⟩⟩:=back hj hb
  ·exact⟨j,o',q1,q2⟩
  ·exact⟨d,o,Tn,q2⟩
 have hB:ZD ψ s.hp b:=⟨id,_,ho, .inl ⟨_,h1⟩⟩
 have Ft:∀i,i≠b->(setBlock w b (.map Wg YS)).heap[i]? =w.heap[i]? :=fun i hi=>by
  show(w.heap.setIfInBounds b _)[i]? =_
  rw[a6S (Ne.symm hi)]
 have hwB:(setBlock w b (.map Wg YS)).heap[b]? =some (.map Wg YS):=by
  show(w.heap.setIfInBounds b _)[b]? =_
  simp[Vw h2]
 have Ya:(setBlock w b (.map Wg YS)).heap.size=w.heap.size:=by simp[setBlock]
 have hI:∀i,i<w.heap.size->Im E ψ s.hp i->Im E Zj s2.hp i:=fun i _ hi=>⟨hi.1,fun hh=>hi.2 (held i hh)⟩
 have Uq:∀i,i<w.heap.size->Im E ψ s.hp i->(setBlock w b (.map Wg YS)).heap[i]? =w.heap[i]? :=fun i _ hi=>Ft i (fun e=>hi.2 (e▸hB))
 have hk:c5E (· ==d) ψ Zj s.hp s2.hp:=by
  intro j oj hj Oe
  have Sx:j≠d:=by simpa using hj
  refine⟨?_,rfl⟩
  by_cases e1:id=j
  ·subst e1;rw[ho]at Oe;cases Oe;exact⟨_,by rw[Xj,if_pos rfl],Ob.le_none rfl⟩
  ·exact⟨_,by rw[Xj,if_neg e1,if_neg Sx,Oe];rfl,Ob.R8 _ oj⟩
 have hf:=c6E (p:=(· ==d)) hI Uq hk
 have nZ:∀k ys b' q q',g k=some ys->pl k=some (b',q)->ψ d=some (b',q')->False:=by
  intro k ys b' q q' hk hq Vz;exact ZV (h.inj d id o _ b' Tn ho (.inl ⟨q',Vz⟩) (.inr (UI k ys b' q hk hq)))
 classical
 refine⟨Zj,{size:=h.size,defers:=h.defers.mono hI Uq,frame:=fun t=>?_,YC:=?_,inj:=?_,own:=?_,YU:=?_,par:=h.par,old:=?_,grow:=?_,same:=h.same}⟩
 ·have e:s2.get t=(s.get t).ZS (AV.kc (· ==d)):=by rw[<-Tt];exact St.TM _ rfl t
  rw[e];exact(h.frame t).ZS hf (fun _=>rfl) (fun _=>rfl)
 ·intro j oj hj;rw[Xj]at hj
  by_cases e1:id=j
  ·subst e1;rw[if_pos rfl]at hj;cases hj
   have MB:∀k ys,k≠kk->ZH g kk (some xs) k=some ys->g k=some ys:=fun k ys hk hq=>by rw[d6g _ _ hk]at hq;exact hq
   obtain⟨pl2,qQ,Ns⟩:∃pl2:List Value->Option (Nat×(Nat×Nat)),pl2 kk=ψ d/\∀k,k≠kk->pl2 k=pl k:=⟨fun k=>if k=kk then ψ d else pl k,by simp,fun k hk=>by simp[hk]⟩;refine⟨b,Wg,YS,pl2,h1,hwB,UZ,g2P,h5,VM,fun e he=>?_,(fun k hk=>by cases hk),fun k ys hk=>?_,fun k ys b' q hk hq=>?_,fun k ys k' ys' b' q q' hk SS hq Vz=>?_⟩
   ·right
    by_cases Nl:X0 e.key=kk
    ·exact⟨xs,by rw[Nl,d5g]⟩
    ·rcases h7 e (hold e he Nl)with h|⟨ys,h⟩
     ·rcases X4 with hc|⟨hc,_⟩
      ·rw[hc]at h;cases h;exact absurd rfl Nl
      ·rw[hc]at h;cases h
     ·exact⟨ys,by rw[d6g _ _ Nl];exact h⟩
   ·by_cases Uh:k=kk
    ·subst Uh;rw[d5g]at hk;cases hk;obtain⟨e,q1,q2,q3⟩:=FM;refine⟨e,q1,q2,?_⟩;rw[qQ,q3]
     exact Y9.mono hI Uq fun b' q hq=>Ft b' (by
      rintro rfl
      exact ZV (h.inj d id o _ b' Tn ho (.inl ⟨q,hq⟩) (.inl ⟨_,h1⟩)))
    ·obtain⟨e,q1,q2,q3⟩:=h9 k ys (MB k ys Uh hk);refine⟨e,Zq e q1 (by rw[q2];exact Uh),q2,?_⟩;rw[Ns _ Uh]
     exact q3.mono hI Uq fun b' q hq=>Ft b' (by
      rintro rfl
      exact h.YU.TK ho (UI k ys b' q (MB k ys Uh hk) hq) _ h1)
   ·by_cases Uh:k=kk
    ·rw[Uh,qQ]at hq;exact .inl ⟨rfl,q,hq⟩
    ·rw[Ns _ Uh]at hq;exact .inr (UI k ys b' q (MB k ys Uh hk) hq)
   ·by_cases Uh:k=kk<;>by_cases Nd:k'=kk
    ·rw[Uh,Nd]
    ·rw[Uh,qQ]at hq;rw[Ns _ Nd]at Vz;exact(nZ k' ys' b' q' q (MB k' ys' Nd SS) Vz hq).elim
    ·rw[Ns _ Uh]at hq;rw[Nd,qQ]at Vz;exact(nZ k ys b' q q' (MB k ys Uh hk) hq Vz).elim
    ·rw[Ns _ Uh]at hq;rw[Ns _ Nd]at Vz;exact Tl k ys k' ys' b' q q' (MB k ys Uh hk) (MB k' ys' Nd SS) hq Vz
  ·rw[if_neg e1]at hj;split at hj
   ·cases hj
   ·rename_i Sx
    cases hl:look s.hp j with
    |none=>rw[hl]at hj;cases hj
    |some o1=>
     rw[hl]at hj;simp only[a8H,a3y]at hj;subst hj
     have hblk:∀i,ZZ ψ j i->(setBlock w b (.map Wg YS)).heap[i]? =w.heap[i]? :=fun i hi=>Ft i (by
      rintro rfl
      exact e1 (h.inj id j _ o1 i ho hl (.inl ⟨_,h1⟩) hi))
     cases o1 with
     |box cs=>
      obtain⟨b2,c,e,g1,g2,g3,g4⟩:=h.YC j _ hl;refine⟨b2,c,e,g1,by rw[hblk b2 (.inl ⟨_,g1⟩)];exact g2,by simpa using g3,fun i x hx=>?_⟩;rw[a1C]at hx
      cases V9:cs[i]? with
      |none=>rw[V9]at hx;cases hx
      |some c0=>
       rw[V9]at hx;cases hx;have h6:=g4 i c0 V9
       cases c0 with
       |agg l=>exact .junk _
       |Zp l=>exact .junk _
       | _=>exact hf _ _ h6 (by simp) (by simp)
     |gh Z vs cs=>
      obtain⟨g1,g2,g3,g4⟩:=h.YC j _ hl;refine⟨g1,g2.mono hI (fun b hb=> .inr hb) Uq (fun b hb=>hblk b (.inr hb)),by simpa using g3,fun i x hx=>?_⟩;rw[a1C]at hx
      cases V9:cs[i]? with
      |none=>rw[V9]at hx;cases hx
      |some c0=>rw[V9]at hx;cases hx;exact(g4 i c0 V9).ZS hf (fun _=>rfl) (fun _=>rfl)
     | _=>exact(h.YC j _ hl).move (by constructor<;>(intros;intro e;cases e)) hI Uq ⟨rfl,fun b hb=> .inr hb⟩ hblk
 ·intro i i' oi oi' x hi Vg hx Vq;obtain⟨n1,q⟩:=back hi hx;obtain⟨n2,q'⟩:=back Vg Vq
  rcases q with⟨u,q1,q2⟩|⟨q1,q2⟩<;>rcases q' with⟨u',Sb,NL⟩|⟨Sb,NL⟩
  ·exact h.inj i i' u u' x q1 Sb q2 NL
  ·exact absurd (h.inj i d u o x q1 Tn q2 NL) n1
  ·exact absurd (h.inj i' d u' o x Sb Tn NL q2) n2
  ·rw[q1,Sb]
 ·intro i oi x hi hx;rw[Xj]at hi
  by_cases e1:id=i
  ·subst e1;rw[if_pos rfl]at hi;cases hi
   rcases Fv.1 hx with hx|⟨k,hx⟩
   ·have:=h.own id _ x ho hx;exact this
   ·rcases h.own d o x Tn (.inl ⟨k,hx⟩)with⟨q1,q2⟩|q1
    ·left
     have e:o.org d=id:=by
      cases o with
      |YN org z ys=>
       rcases Sy with h|h
       ·cases h
       ·simp only[Ob.org?,a3y]at h;exact h
      |list z ys=>
       have:=E.big d q1;omega
      | _=>cases Xm
     rw[e]at q1 q2;exact⟨q1,q2⟩
    ·exact .inr q1
  ·rw[if_neg e1]at hi;split at hi
   ·cases hi
   ·cases hl:look s.hp i with
    |none=>rw[hl]at hi;cases hi
    |some o1=>
     rw[hl]at hi;simp only[a8H,a3y]at hi;subst hi;rw[Ob.TL];exact h.own i o1 x hl ((o3 (Ne.symm e1)).1 hx)
 ·intro i oi x hi hx;rw[Xj]at hi;rw[Ya]
  by_cases e1:id=i
  ·subst e1;rw[if_pos rfl]at hi;cases hi
   rcases hx with⟨_,k,hx⟩|hx
   ·refine⟨rfl,(h.YC d o Tn).lt hx,fun k' e=>?_⟩;exact ZV (h.inj d id o _ x Tn ho (.inl ⟨k,hx⟩) (.inl ⟨k',e⟩))
   ·obtain⟨_,q2,q3⟩:=h.YU id _ x ho hx;exact⟨rfl,q2,q3⟩
  ·rw[if_neg e1]at hi;split at hi
   ·cases hi
   ·cases hl:look s.hp i with
    |none=>rw[hl]at hi;cases hi
    |some o1=>
     rw[hl]at hi;simp only[a8H,a3y]at hi;subst hi;rw[Ob.Vv]
     have hx:ψ.sub i x:=by
      rcases hx with⟨h,_⟩|h
      ·exact absurd h.symm e1
      ·exact h
     exact h.YU i o1 x hl hx
 ·intro i hi hm;rw[Ft i ?_]
  ·exact h.old i hi hm
  ·rintro rfl
   rcases h.own id _ i ho (.inl ⟨_,h1⟩)with⟨q1,q2⟩|q1
   ·exact hm (.inl ⟨_,q1,q2⟩)
   ·exact E.no hi hm q1
 ·rw[Ya];exact h.grow
end
section
variable{P:Program}{E:En}{n:Nat}{ψ:Pl}{s:St}{a:Act}{w:World}
variable{dst:Option Nat}{ty:TypeId}{pos:String}{af:Array Edge}{g:Option (Nat×Bool)}{r:V7}{d:Nat}{K:St->AV->Prop}
theorem e6v{x:AV}{id:Nat}{sk:Sk}{sz:Nat}{gm:List Value->Option (List (List IV))}{hole:Option (List Value)}(hx:s.Qw x=some (id,sk,sz,gm,hole)):
 x= .mpr id/\look s.hp id=some (.YA sk sz gm hole):=by
 unfold St.Qw at hx;split at hx
 ·split at hx
  ·rename_i h;simp only[a3y,a2L]at hx;obtain⟨rfl,rfl,rfl,rfl,rfl⟩:=hx;exact⟨rfl,h⟩
  ·cases hx
 ·cases hx
theorem e7v{t k' e':TypeId}{m k:Operand}{sk:Sk}(hu:P.underlying t=some (.map k' e'))(p1:RL P 20 k'=some sk.2.1)(p2:XY P k'=some sk.2.1.length)
 (Xg:Xh (a.eval k)=some (XT P k',sk.2.1)) {b clock:Nat} {es:Array MapEntry} (hm:a.eval m= .map (some b)) (hh:w.heap[b]? =some (.map es clock)) {r:Option (Nat×Value)} {v:Value}
 (h1:(Instr.findKey k' (a.eval k) es.toList).run P w= .ok r w) (h2:match r with|some (_,v')=>v'=v|none=>(zeroValue e').run P w= .ok v w):
 (execOp a.eval ⟨dst, .lookup t m k false,ty,pos,af,g⟩).run P w= .ok (.value v) w:=by
 simp only[execOp,Sem.run_bind]
 have:(Instr.lookup t (a.eval m) (a.eval k) false).run P w= .ok v w:=by
  unfold Instr.lookup;rw[Sem.run_bind,Vm.run_underlying w hu,Result.andThen_ok,hm];simp only[Sem.run_bind,Sem.run_pure,HM hh,FH p1 p2 Xg es.isEmpty,Result.andThen_ok,h1]
  cases r with
  |none=>simp only[Sem.run_bind,h2,Result.andThen_ok,Sem.run_pure];rfl
  |some p=>obtain⟨i,v'⟩:=p;simp only at h2;subst h2;simp only[Sem.run_pure,Result.andThen_ok];rfl
 rw[this];rfl
theorem e8v{sz Zz:Nat}{v:Value}(h:G1 Zz v= .nil sz):v= .slice none 0 0:=by
 unfold G1 at h;split at h
 ·rfl
 ·cases h
 ·cases h
 ·cases h
theorem e9v{t k' e':TypeId}{m k:Operand}{ok:Bool}{sk:Sk}{z:List AV}(hu:P.underlying t=some (.map k' e'))(UA:MD P k' e'=some sk)(hz:QI P e'=some z)
 (QF:((P.info? e').bind (·.zero)).map Sz=some (XT P e')) (hd:d<1000) (h:Z7 E n ψ s a w) (hk:ZQ P d s K (.UE sk z m k ok)):
 ∃v,(∀u,Ext w u->(execOp a.eval ⟨dst, .lookup t m k ok,ty,pos,af,g⟩).run P u= .ok (.value v) u)/\∃ZF s' av,Z7 E n ZF s' a w/\K s' av/\ZL (Im E ZF s'.hp) ZF s'.hp w av v:=by
 simp only[ZQ]at hk
 cases HL:(s.drop d).Qw ((s.drop d).ev m)with
 |none=>
  rw[HL]at hk;obtain⟨v,av,h1,h2,h3⟩:=d5e (dst:=dst) (ty:=ty) (pos:=pos) (af:=af) (g:=g) hu UA hz QF h hk;exact⟨v,h1,ψ,s,av,h,h2,h3⟩
 |some q=>
  obtain⟨id,Xi,sz,gm,hole⟩:=q;rw[HL]at hk;obtain⟨p1,p2,p3,p4⟩:=d2e UA;have hf:=h.drop (id:=d) hd;have YQ:=LI s d;generalize s.drop d=s1 at hk hf YQ HL;obtain⟨FI,ho⟩:=e6v HL;have hm:=hf.ev m;have FJ:=hf.ev k
  dsimp only at hk
  split at hk
  ·rename_i S3 kk Zz Rr;obtain⟨rfl,rfl,rfl,rfl,rfl,hk⟩:=hk;obtain⟨Xg,Um⟩:=d9d FJ Rr;rw[p3]at Xg;rw[FI]at hm;obtain⟨b,es,clock,pl,h1,h2,h3,h4,h5,h6,h7,h8,h9,UI,Tl⟩:=hf.YC id _ ho
   have HN:a.eval m= .map (some b):=by
    generalize a.eval m=vm at hm
    cases hm with
    |mpr _ b' q o' XI XH=>rw[h1]at XH;cases XH;rfl
   have Zq:∀e∈es.toList,Xh e.key=some (XT P k',Xi.2.1):=fun e he=>by rw[<-p3];exact(h4 e he).1
   by_cases hex:∃e∈es.toList,e.key=a.eval k
   ·obtain⟨e,he,q3⟩:=hex
    have XA:∀u,Ext w u->(execOp a.eval ⟨dst, .lookup t m k false,ty,pos,af,g⟩).run P u= .ok (.value e.val) u:=by
     intro u hx
     rcases oy (w:=u) p1 p2 Xg es.toList Zq with⟨q1,q2⟩|⟨j,e',q1,q2,q4⟩
     ·exact absurd q3 (q2 e he)
     ·have:e'=e:=E9 h6 e' (a6y q2) e he (by rw[q3,q4]);subst this;exact e7v hu p1 p2 Xg HN (hx.heap h2) q1 rfl
    rcases h7 e he with hc|⟨xs,hc⟩
    ·cases hc
    ·rw[q3,Um]at hc;rw[hc]at hk;obtain⟨Zj,r1,r2⟩:=hf.qR hd YQ ho hc h1 h2 he (by rw[q3];exact Um);exact⟨_,XA,Zj,_,_,r1,hk,r2⟩
   ·have hgn:gm kk=none:=by
     cases hc:gm kk with
     |none=>rfl
     |some c=>
      obtain⟨e,he,g1,_⟩:=h9 kk c hc;exact absurd ⟨e,he,e6u (Zq e he) Xg (by rw[g1,Um])⟩ hex
    rw[hgn]at hk;obtain⟨i,zv,z1,z2,Qs⟩:=DA hz;rw[z1]at QF;simp only[a9J,z2,a8H,a3y]at QF
    have hzv:zv= .slice none 0 0:=by
     have PK:=d2B (QF.trans (p4.symm.trans h5));rw[PK]at Qs;have Qs:[AV.nil Zz]=Ov [zv] (oS P 20 e'):=Qs
     cases hcs:oS P 20 e' with
     |nil=>rw[hcs]at Qs;simp only[Ov,a4U,and_true]at Qs;exact e8v Qs.symm
     |cons x y=>rw[hcs]at Qs;simp only[Ov,a4U,and_true]at Qs;exact e8v Qs.symm
    subst hzv;refine⟨_,fun u hx=>?_,ψ,s1,_,hf,hk, .nil _⟩
    rcases oy (w:=u) p1 p2 Xg es.toList Zq with⟨q1,q2⟩|⟨j,e',q1,q2,q4⟩
    ·exact e7v hu p1 p2 Xg HN (hx.heap h2) q1 (G3 z1 z2 u)
    ·exact absurd ⟨e',a6y q2,q4⟩ hex
  ·exact hk.elim
theorem e0w{t k' e':TypeId}{m k:Operand}{ok:Bool}{sk:Sk}{z:List AV}(hu:P.underlying t=some (.map k' e'))(UA:MD P k' e'=some sk)(hz:QI P e'=some z)
 (QF:((P.info? e').bind (·.zero)).map Sz=some (XT P e')) (hd:d<1000) (h:Z7 E n ψ s a w) (hk:ZQ P d s K (.UE sk z m k ok)):
 XX P E n ⟨dst, .lookup t m k ok,ty,pos,af,g⟩ a w K:=by
 obtain⟨v,h1,ZF,s',av,h2,h3,h4⟩:=e9v (dst:=dst) (ty:=ty) (pos:=pos) (af:=af) (g:=g) hu UA hz QF hd h hk;exact Sh (h1 w (Ext.refl w)) h3 h2 h4
theorem e1w{t k' e':TypeId}{m k x:Operand}{sk:Sk}(hu:P.underlying t=some (.map k' e'))(UA:MD P k' e'=some sk)(h:Z7 E n ψ s a w)(hk:ZQ P d s K (.Yy sk m k x))
 {o:Op} (Na:o= .mapUpdate t m k x\/o= .insert t m k x):XX P E n ⟨dst,o,ty,pos,af,g⟩ a w K:=by
 simp only[ZQ]at hk
 cases HL:s.Qw (s.ev m)with
 |none=>rw[HL]at hk;exact b7s hu UA h hk Na
 |some q=>
  obtain⟨id,Xi,sz,gm,hole⟩:=q;rw[HL]at hk;obtain⟨p1,p2,p3,p4⟩:=d2e UA;obtain⟨FI,ho⟩:=e6v HL;have hm:=h.ev m;have FJ:=h.ev k;have hx:=h.ev x
  dsimp only at hk
  split at hk
  ·rename_i S3 kk d' Zz len Rr LK;split at hk
   ·rename_i o' Tn;split at hk
    ·rename_i z0 xs Xm;obtain⟨rfl,rfl,rfl,M3,ZV,rfl,Sy,X4,hk⟩:=hk;obtain⟨Xg,Um⟩:=d9d FJ Rr;rw[p3]at Xg;rw[FI]at hm;rw[LK]at hx;obtain⟨b,es,clock,pl,h1,h2,h3,h4,h5,h6,h7,h8,h9,UI,Tl⟩:=h.YC id _ ho
     have Kz:o'.TQ=some (Zz,xs):=by
      obtain⟨o2,m2,q1,q2,_⟩:=HS hx;rw[Tn]at q1;cases q1;have:=c2R Xm;rw[q2]at this;simp only[a3y,a2L]at this;rw[Xm,this.1]
     have HN:a.eval m= .map (some b):=by
      generalize a.eval m=vm at hm
      cases hm with
      |mpr _ b' q o' XI XH=>rw[h1]at XH;cases XH;rfl
     have Zq:∀e∈es.toList,Xh e.key=some (XT P k',Xi.2.1):=fun e he=>by rw[<-p3];exact(h4 e he).1
     have run:∀w',(Instr.mapUpdate t (.map (some b)) (a.eval k) (a.eval x)).run P w= .ok () w'->(execOp a.eval ⟨dst,o,ty,pos,af,g⟩).run P w= .ok .skip w':=by
      intro w' XA
      rcases Na with rfl|rfl<;>simp only[execOp,HN,Sem.run_bind,XA,Result.andThen_ok,Sem.run_pure]
     have g1a:Sz (a.eval x)=Xi.2.2:=by
      rw[h5]
      have:∀L v,ZL (Im E ψ s.hp) ψ s.hp w (.sl d' Zz 0 L) v->Sz v=false:=by intro L v h;cases h<;>rfl
      exact this _ _ hx
     rcases oy (w:=w) p1 p2 Xg es.toList Zq with⟨q1,q2⟩|⟨j,e,q1,q2,q3⟩
     ·have YQ:∀e∈es.toList,X0 e.key≠kk:=fun e he Uh=>q2 e he (e6u (Zq e he) Xg (by rw[Uh,Um]))
      obtain⟨Zj,XG⟩:=h.nJ (YS:=clock+1) (Wg:=es.push {key:=a.eval k,val:=a.eval x,born:=clock}) M3 ZV ho Tn Kz Sy X4 hx h1 h2 (h3.push _ rfl)
       (by
        rw[a8U,a5M,b6n];refine⟨h6,by simp,?_⟩;intro u hu v hv huv;rw[c5B,a1B]at hv;obtain⟨e',XF,e2⟩:=a0E.1 hu
        exact YQ e' XF (by rw[e2,huv,hv];exact Um))
       (fun e he=>by
        rw[a8U,a9E,a1B]at he
        rcases he with he|rfl
        ·exact h4 e he
        ·exact⟨by rw[p3];exact Xg,g1a⟩)
       ⟨{key:=a.eval k,val:=a.eval x,born:=clock},by simp,Um,rfl⟩
       (fun e he Nl=>by
        rw[a8U,a9E,a1B]at he
        rcases he with he|rfl
        ·exact he
        ·exact absurd Um Nl)
       (fun e he _=>by rw[a8U];exact a7N _ he)
      refine oY (run _ ?_) hk XG;unfold Instr.mapUpdate;simp only[Sem.run_bind,Vm.run_underlying w hu,Result.andThen_ok,HM h2,FH p1 p2 Xg,q1,Cm _ h2];rfl
     ·have he:e∈es.toList:=a6y q2
      have PD:es[j]? =some e:=by rw[<-a1E];exact q2
      have Nl:X0 e.key=kk:=by rw[q3];exact Um
      have Rs:∀i,(es.modify j fun e=>{e with val:=a.eval x})[i]? =if j=i then(es[i]?).map (fun e=>{e with val:=a.eval x})else es[i]? :=by
       intro i;rw[a5N]
      have WA:∀e'∈(es.modify j fun e=>{e with val:=a.eval x}).toList,e'={e with val:=a.eval x}\/e'∈es.toList:=by
       intro e' XF;obtain⟨i,hi⟩:=a9B XF;rw[a1E,Rs]at hi;split at hi
       ·rename_i Wd;subst Wd;rw[PD]at hi;simp only[a8H,a3y]at hi;exact .inl hi.symm
       ·right;rw[<-a1E]at hi;exact a6y hi
      have FL:(es.modify j fun e=>{e with val:=a.eval x}).toList.map (fun e=>X0 e.key)=es.toList.map (fun e=>X0 e.key):=by
       apply b6r;intro i;rw[a1C,a1C,a1E,Rs,a1E];split
       ·cases es[i]? <;>rfl
       ·rfl
      obtain⟨Zj,XG⟩:=h.nJ (YS:=clock) (Wg:=es.modify j fun e=>{e with val:=a.eval x}) M3 ZV ho Tn Kz Sy X4 hx h1 h2 (h3.modify j (fun e=>{e with val:=a.eval x}) (fun _=>rfl))
       (by rw[FL];exact h6)
       (fun e' XF=>by
        rcases WA e' XF with rfl|XF
        ·exact⟨(h4 e he).1,g1a⟩
        ·exact h4 e' XF)
       ⟨{e with val:=a.eval x},by
        refine a6y (i:=j) ?_
        rw[a1E,Rs,if_pos rfl,PD];rfl,Nl,rfl⟩
       (fun e' XF f8L=>by
        rcases WA e' XF with rfl|XF
        ·exact absurd Nl f8L
        ·exact XF)
       (fun e' XF f8L=>by
        obtain⟨i,hi⟩:=a9B XF;refine a6y (i:=i) ?_;rw[a1E]at hi⊢;rw[Rs,if_neg ?_]
        ·exact hi
        ·rintro rfl;rw[PD]at hi;cases hi
         exact f8L Nl)
      have PE:(es.modify j fun e=>{e with key:=a.eval k,val:=a.eval x})=es.modify j fun e=>{e with val:=a.eval x}:=by
       apply b1p;apply b6r;intro i;rw[a1E,a1E,a5N,a5N];split
       ·rename_i Wd;subst Wd;rw[PD];simp[q3]
       ·rfl
      have YD:(Instr.keyThatStays e.key (a.eval k)).run P w= .ok (a.eval k) w:=by
       unfold Instr.keyThatStays;simp only[q3,b5r Xg,if_true,Sem.run_pure]
      refine oY (run _ ?_) hk XG;unfold Instr.mapUpdate;simp only[Sem.run_bind,Vm.run_underlying w hu,Result.andThen_ok,HM h2,FH p1 p2 Xg,q1,PD,a8H,a1J,YD,PE,Cm _ h2];rfl
    ·exact hk.elim
   ·exact hk.elim
  ·exact hk.elim
theorem e2w(s:St){id:Nat}{sk:Sk}(sz:Nat)(UA:sk.2.2=false)(ho:look s.hp id=some (.map sk fun _=>none)):Le s (s.add id (.YA sk sz (fun _=>none) none)):=by
 rintro E n a w ⟨ψ,h⟩;obtain⟨b,es,clock,h1,h2,h3,m1,m2,m3,m4⟩:=h.YC id _ ho
 have LJ:es.toList=[]:=by
  cases hc:es.toList with
  |nil=>rfl
  |cons e r=>obtain⟨c,Cg⟩:=m2 e (by rw[hc];simp);cases Cg
 refine⟨ψ,h.MV (o':= .YA sk sz (fun _=>none) none) (k:=(0,0)) ho (Ob.le_none rfl) rfl (by simp[Ob.multi]) h1 (fun _ _=>rfl) rfl ⟨rfl,rfl,rfl,a8F _⟩
  (fun _ _=>⟨b,es,clock,fun _=>none,h1,h2,h3,m1,UA,m3,?_,by simp,by simp,by simp,by simp⟩)⟩
 intro e he;rw[LJ]at he;cases he
end
section
variable{P:Program}{E:En}{n:Nat}{ψ:Pl}{s:St}{a:Act}{w:World}
variable{dst:Option Nat}{ty:TypeId}{pos:String}{af:Array Edge}{g:Option (Nat×Bool)}{r:V7}{d:Nat}{K:St->AV->Prop}
theorem Z7.Fw(h:Z7 E n ψ s a w){id d:Nat}(hd:d<1000)(YQ:look s.hp d=none){sz:Nat}{xs:List (List (List IV))}
 (ho:look s.hp id=some (.ZI sz xs none)) {i0:Nat} {ys:List (List IV)} (hg:xs[i0]? =some ys) {b:Nat} {k:Nat×Nat} (hb:ψ id=some (b,k)):
 ∃c e,w.heap[b]? =some (.cells c e (0,0))/\k.1+i0<c.size/\∃Zj,Z7 E n Zj ((s.add id (.ZI sz xs (some i0))).add d (.YN id sz ys)) a w∧
  ZL (Im E Zj ((s.add id (.ZI sz xs (some i0))).add d (.YN id sz ys)).hp) Zj ((s.add id (.ZI sz xs (some i0))).add d (.YN id sz ys)).hp w (.sl d sz 0 ys.length) (c.getD (k.1+i0) undef):=by
 obtain⟨h0,b0,k0,c0,e0,pl,h1,h2,h3,h4,h9,UI,Tl⟩:=h.YC id _ ho;rw[h1]at hb;cases hb;have Y9:=h9 i0 ys hg (by simp);have Zd:=(a5y.1 hg).1;refine⟨c0,e0,h2,by omega,?_⟩
 have ZV:id≠d:=by rintro rfl;rw[ho]at YQ;cases YQ
 generalize hp:pl i0=p at Y9
 have FD:∀b q,p=some (b,q)->ψ.sub id b:=fun b q e=>UI i0 ys b q hg (by simp) (hp.trans e)
 let Zj:Pl:=⟨fun j=>if j=d then p else ψ j,fun j b=>if j=id then ψ.sub id b/\∀q,p≠some (b,q)else j≠d/\ψ.sub j b⟩
 generalize Tt:(s.add id (.ZI sz xs (some i0))).add d (.YN id sz ys)=s2
 have Xj:∀j,look s2.hp j=if d=j then some (.YN id sz ys)else if id=j then some (.ZI sz xs (some i0))else look s.hp j:=by
  intro j;rw[<-Tt,WL,WL]
 have o1:∀{b},ZZ Zj d b->∃q,p=some (b,q):=by
  intro b hb
  rcases hb with⟨q,hb⟩|hb
  ·exact⟨q,by simpa[Zj]using hb⟩
  ·simp[Zj,Ne.symm ZV]at hb
 have o2:∀{b},ZZ Zj id b↔(∃k,ψ id=some (b,k))\/(ψ.sub id b/\∀q,p≠some (b,q)):=by
  intro b;simp[ZZ,Zj,ZV]
 have o3:∀{j b},j≠d->j≠id->(ZZ Zj j b↔ZZ ψ j b):=by
  intro j b Ce QM;simp[ZZ,Zj,Ce,QM]
 have Fv:∀{b},ZZ Zj id b->ZZ ψ id b:=by
  intro b hb
  rcases o2.1 hb with h|h
  ·exact .inl h
  ·exact .inr h.1
 have od:∀{b},ZZ Zj d b->ZZ ψ id b:=by
  intro b hb;obtain⟨q,hq⟩:=o1 hb;exact .inr (FD b q hq)
 have back:∀{j o b},look s2.hp j=some o->ZZ Zj j b->∃j' o',look s.hp j'=some o'/\ZZ ψ j' b/\(j'=if j=d then id else j):=by
  intro j o b hj hb;rw[Xj]at hj
  by_cases e1:d=j
  ·subst e1;exact⟨id,_,ho,od hb,by simp⟩
  ·rw[if_neg e1]at hj
   by_cases e2:id=j
   ·subst e2;exact⟨id,_,ho,Fv hb,by simp[ZV]⟩
   ·rw[if_neg e2]at hj;exact⟨j,o,hj,(o3 (Ne.symm e1) (Ne.symm e2)).1 hb,by simp[Ne.symm e1]⟩
 have held:∀b,ZD Zj s2.hp b->ZD ψ s.hp b:=by
  rintro b ⟨j,o,hj,hb⟩;obtain⟨j',o',q1,q2,_⟩:=back hj hb;exact⟨j',o',q1,q2⟩
 have hI:∀b,b<w.heap.size->Im E ψ s.hp b->Im E Zj s2.hp b:=fun b _ hi=>⟨hi.1,fun hh=>hi.2 (held b hh)⟩
 have Wf:U8 ψ Zj s.hp s2.hp:=by
  intro j o hj
  have Sx:j≠d:=by rintro rfl;rw[YQ]at hj;cases hj
  refine⟨?_,by simp[Zj,Sx]⟩
  by_cases e2:id=j
  ·subst e2;rw[ho]at hj;cases hj;exact⟨_,by rw[Xj,if_neg (Ne.symm Sx),if_pos rfl],Ob.RM rfl rfl (a8F _)⟩
  ·exact⟨o,by rw[Xj,if_neg (Ne.symm Sx),if_neg e2];exact hj,o.le_refl⟩
 have Px:Zj d=p:=by simp[Zj]
 have Fu:look s2.hp d=some (.YN id sz ys):=by rw[Xj,if_pos rfl]
 refine⟨Zj,{size:=h.size,defers:=h.defers.mono hI (fun _ _ _=>rfl),frame:=fun t=>?_,YC:=?_,inj:=?_,own:=?_,YU:=?_,par:=?_,old:=h.old,grow:=h.grow,same:=h.same},?_⟩
 ·have:s2.get t=s.get t:=by rw[<-Tt];rfl
  rw[this];exact(h.frame t).mono hI (fun _ _ _=>rfl) Wf
 ·intro j o hj;rw[Xj]at hj
  by_cases e1:d=j
  ·subst e1;rw[if_pos rfl]at hj;cases hj;obtain⟨Qr,⟨q1,q2,q3⟩|⟨b',k',cap,ad,q1,q2,q3,q4,q5,q6,c,e,r1,r2,r3,r4⟩⟩:=Y9
   ·exact⟨Qr, .inl ⟨by rw[Px];exact q1,q2⟩⟩
   ·exact⟨Qr, .inr ⟨b',k',c,e,by rw[Px];exact q1,r1,r2,r3,fun i j x hx=>(r4 i j x hx).mono hI (fun _ _ _=>rfl)⟩⟩
  ·rw[if_neg e1]at hj
   by_cases e2:id=j
   ·subst e2;rw[if_pos rfl]at hj;cases hj;refine⟨fun j hj=>by cases hj;exact(a5y.1 hg).1,b,k,c0,e0,pl,by simp[Zj,ZV];exact h1,h2,h3,h4,fun i x hx hh=>?_,fun i x b' q hx hh hq=>?_,fun i x i' x' b' q q' hx hh Vq hh' hq Vz=>?_⟩
    ·exact(h9 i x hx (by simp)).mono hI (fun _ _ _=>rfl) (fun _ _ _=>rfl)
    ·have lA:i≠i0:=by rintro rfl;exact hh rfl
     simp only[Zj,if_true];exact⟨UI i x b' q hx (by simp) hq,fun q' e=>lA (Tl i x i0 ys b' q q' hx (by simp) hg (by simp) hq (hp.trans e))⟩
    ·exact Tl i x i' x' b' q q' hx (by simp) Vq (by simp) hq Vz
   ·rw[if_neg e2]at hj;exact(h.YC j o hj).mono hI (fun _ _ _=>rfl) Wf ⟨by simp[Zj,Ne.symm e1],fun b hb=>by simp only[Zj,if_neg (Ne.symm e2)];exact⟨Ne.symm e1,hb⟩⟩ (fun _ _=>rfl)
 ·intro i i' oi oi' b hi Vg hb XH;obtain⟨j,oj,q1,q2,q3⟩:=back hi hb;obtain⟨j',oj',Sb,NL,MJ⟩:=back Vg XH;have Hg:=h.inj j j' oj oj' b q1 Sb q2 NL
  have Nv:∀{b},ZZ Zj d b->ZZ Zj id b->False:=by
   intro b h1 h2;obtain⟨q,hq⟩:=o1 h1
   rcases o2.1 h2 with⟨k,h2⟩|⟨_,h2⟩
   ·exact h.YU.TK ho (FD b q hq) k h2
   ·exact h2 q hq
  by_cases e1:i=d
  ·by_cases e2:i'=d
   ·rw[e1,e2]
   ·rw[if_pos e1]at q3;rw[if_neg e2]at MJ
    have:i'=id:=by rw[<-MJ, <-Hg,q3]
    subst e1;subst this;exact(Nv hb XH).elim
  ·by_cases e2:i'=d
   ·rw[if_neg e1]at q3;rw[if_pos e2]at MJ
    have:i=id:=by rw[<-q3,Hg,MJ]
    subst e2;subst this;exact(Nv XH hb).elim
   ·rw[if_neg e1]at q3;rw[if_neg e2]at MJ;rw[<-q3, <-MJ,Hg]
 ·intro i oi b hi hb;rw[Xj]at hi
  by_cases e1:d=i
  ·subst e1;rw[if_pos rfl]at hi;cases hi;have:=h.own id _ b ho (od hb);exact this
  ·rw[if_neg e1]at hi
   by_cases e2:id=i
   ·subst e2;rw[if_pos rfl]at hi;cases hi;have:=h.own id _ b ho (Fv hb);exact this
   ·rw[if_neg e2]at hi;exact h.own i oi b hi ((o3 (Ne.symm e1) (Ne.symm e2)).1 hb)
 ·intro i oi b hi hb;rw[Xj]at hi
  by_cases e1:d=i
  ·subst e1;simp[Zj,Ne.symm ZV]at hb
  ·rw[if_neg e1]at hi
   by_cases e2:id=i
   ·subst e2;rw[if_pos rfl]at hi;cases hi
    have hb:ψ.sub id b:=by simp only[Zj,if_true]at hb;exact hb.1
    obtain⟨_,r2,r3⟩:=h.YU id _ b ho hb;exact⟨rfl,r2,fun k=>by simp only[Zj,if_neg ZV];exact r3 k⟩
   ·rw[if_neg e2]at hi
    have hb:ψ.sub i b:=by simp only[Zj,if_neg (Ne.symm e2)]at hb;exact hb.2
    obtain⟨r1,r2,r3⟩:=h.YU i oi b hi hb;exact⟨r1,r2,fun k=>by simp only[Zj,if_neg (Ne.symm e1)];exact r3 k⟩
 ·intro i hi
  have:i≠d:=by have:=E.big i hi;omega
  simp only[Zj,if_neg this];exact h.par i hi
 ·obtain⟨Qr,⟨q1,q2,q3⟩|⟨b',k',cap,ad,q1,q2,q3,q4,q5,q6,_⟩⟩:=Y9
  ·subst q2;rw[q3];exact .UR d sz _ 0 Fu rfl (by rw[Px];exact q1)
  ·rw[q2];exact .sl d sz 0 ys.length b' k' cap ad _ ys.length Fu rfl (by omega) (by rw[Px];exact q1) (fun hc=>by rw[q3 hc];simp) q4 (by simpa using q5) q6
theorem Z7.lz(h:Z7 E n ψ s a w){id d:Nat}(hd:d<1000)(ZV:d≠id){sz:Nat}{xs:List (List (List IV))}{i0:Nat}
 (ho:look s.hp id=some (.ZI sz xs (some i0))) {ys:List (List IV)} {o:Ob} (Tn:look s.hp d=some o) (Xm:o.TQ=some (sz,ys)) (Sy:o.org?=none\/o.org?=some id)
 {v:Value} (hv:ZL (Im E ψ s.hp) ψ s.hp w (.sl d sz 0 ys.length) v) {b:Nat} {k:Nat×Nat} {c c':Array Value} {e:TypeId} (hb:ψ id=some (b,k)) (hh:w.heap[b]? =some (.cells c e (0,0)))
 {w':World} (Ft:∀i,i≠b->w'.heap[i]? =w.heap[i]?) (Ya:w'.heap.size=w.heap.size) (KB:w'.os=w.os/\w'.tape=w.tape/\w'.output=w.output/\w.drawn<=w'.drawn)
 (hwB:w'.heap[b]? =some (.cells c' e (0,0))) (hcs:c'.size=c.size) (IJ:c'.getD (k.1+i0) undef=v) (Ve:∀i,i≠i0->c'.getD (k.1+i) undef=c.getD (k.1+i) undef):
 ∃Zj,Z7 E n Zj ((s.kill d).add id (.ZI sz (xs.set i0 ys) none)) a w':=by
 obtain⟨h0,b1,k1,c1,e1',pl,h1,h2,h3,h4,h9,UI,Tl⟩:=h.YC id _ ho;rw[h1]at hb;cases hb;rw[h2]at hh;cases hh;have Zd:=h0 i0 rfl;have Y9:=d7g Xm Tn (h.YC d o Tn) hv;have hmul:o.multi=false:=c5R Xm
 let Zj:Pl:=⟨fun j=>ψ j,fun j b=>(j=id/\∃k,ψ d=some (b,k))\/ψ.sub j b⟩
 generalize Tt:(s.kill d).add id (.ZI sz (xs.set i0 ys) none)=s2
 have Xj:∀j,look s2.hp j=if id=j then some (.ZI sz (xs.set i0 ys) none)else if j=d then none else(look s.hp j).map (Ob.ZS (AV.kc (· ==d))):=by
  intro j;rw[<-Tt,WL,d8g]
 have Fv:∀{b},ZZ Zj id b↔ZZ ψ id b\/∃k,ψ d=some (b,k):=by
  intro b;simp only[ZZ,Zj,true_and];constructor
  ·rintro(h|h|h)
   ·exact .inl (.inl h)
   ·exact .inr h
   ·exact .inl (.inr h)
  ·rintro((h|h)|h)
   ·exact .inl h
   ·exact .inr (.inr h)
   ·exact .inr (.inl h)
 have o3:∀{j b},j≠id->(ZZ Zj j b↔ZZ ψ j b):=by
  intro j b hj;simp[ZZ,Zj,hj]
 have back:∀{j o2 b},look s2.hp j=some o2->ZZ Zj j b->j≠d/\((∃o',look s.hp j=some o'/\ZZ ψ j b)\/(j=id/\ZZ ψ d b)):=by
  intro j o2 b hj hb;rw[Xj]at hj
  by_cases e1:id=j
  ·subst e1;refine⟨Ne.symm ZV,?_⟩
   rcases Fv.1 hb with hb|⟨k,hb⟩
   ·exact .inl ⟨_,ho,hb⟩
   ·exact .inr ⟨rfl, .inl ⟨k,hb⟩⟩
  ·rw[if_neg e1]at hj;split at hj
   ·cases hj
   ·rename_i Sx
    cases hl:look s.hp j with
    |none=>rw[hl]at hj;cases hj
    |some o'=>exact⟨Sx, .inl ⟨o',rfl,(o3 (Ne.symm e1)).1 hb⟩⟩
 have held:∀b,ZD Zj s2.hp b->ZD ψ s.hp b:=by
  rintro b ⟨j,o2,hj,hb⟩;obtain⟨_,⟨o',q1,q2⟩|⟨_,q2⟩⟩:=back hj hb
  ·exact⟨j,o',q1,q2⟩
  ·exact⟨d,o,Tn,q2⟩
 have hB:ZD ψ s.hp b:=⟨id,_,ho, .inl ⟨_,h1⟩⟩
 have hI:∀i,i<w.heap.size->Im E ψ s.hp i->Im E Zj s2.hp i:=fun i _ hi=>⟨hi.1,fun hh=>hi.2 (held i hh)⟩
 have Uq:∀i,i<w.heap.size->Im E ψ s.hp i->w'.heap[i]? =w.heap[i]? :=fun i _ hi=>Ft i (fun e=>hi.2 (e▸hB))
 have hk:c5E (· ==d) ψ Zj s.hp s2.hp:=by
  intro j oj hj Oe
  have Sx:j≠d:=by simpa using hj
  refine⟨?_,rfl⟩
  by_cases e1:id=j
  ·subst e1;rw[ho]at Oe;cases Oe;exact⟨_,by rw[Xj,if_pos rfl],Ob.RM rfl rfl (by simp)⟩
  ·exact⟨_,by rw[Xj,if_neg e1,if_neg Sx,Oe];rfl,Ob.R8 _ oj⟩
 have hf:=c6E (p:=(· ==d)) hI Uq hk
 have nZ:∀i x b' q q',xs[i]? =some x->i≠i0->pl i=some (b',q)->ψ d=some (b',q')->False:=by
  intro i x b' q q' hx hi hq Vz;exact ZV (h.inj d id o _ b' Tn ho (.inl ⟨q',Vz⟩) (.inr (UI i x b' q hx (by simp[Ne.symm hi]) hq)))
 classical
 refine⟨Zj,{size:=h.size,defers:=h.defers.mono hI Uq,frame:=fun t=>?_,YC:=?_,inj:=?_,own:=?_,YU:=?_,par:=h.par,old:=?_,grow:=?_,same:=⟨KB.1.trans h.same.1,KB.2.1.trans h.same.2.1,KB.2.2.1.trans h.same.2.2.1,a0N h.same.2.2.2 KB.2.2.2⟩}⟩
 ·have e:s2.get t=(s.get t).ZS (AV.kc (· ==d)):=by rw[<-Tt];exact St.TM _ rfl t
  rw[e];exact(h.frame t).ZS hf (fun _=>rfl) (fun _=>rfl)
 ·intro j oj hj;rw[Xj]at hj
  by_cases e1:id=j
  ·subst e1;rw[if_pos rfl]at hj;cases hj
   have MB:∀i x,i≠i0->(xs.set i0 ys)[i]? =some x->xs[i]? =some x:=fun i x hi hx=>by rw[c9b]at hx;rw[if_neg (Ne.symm hi)]at hx;exact hx
   have hg0:∀x,(xs.set i0 ys)[i0]? =some x->x=ys:=fun x hx=>by rw[c9b,if_pos rfl,if_pos Zd]at hx;exact(c8c hx).symm
   have Fs:∀i,i≠i0->(some i0:Option Nat)≠some i:=fun i hi e=>hi (c8c e).symm
   refine⟨(fun j hj=>by cases hj),b,k,c',e,(fun i=>if i=i0 then ψ d else pl i),h1,hwB,by rw[hcs];exact h3,by rw[List.length_set];exact h4,fun i x hx _=>?_,fun i x b' q hx _ hq=>?_,fun i x i' x' b' q q' hx _ Vq _ hq Vz=>?_⟩
   ·by_cases hi:i=i0
    ·subst hi;rw[hg0 x hx];simp only[if_true];rw[IJ]
     exact Y9.mono hI Uq fun b' q hq=>Ft b' (by
      rintro rfl
      exact ZV (h.inj d id o _ b' Tn ho (.inl ⟨q,hq⟩) (.inl ⟨_,h1⟩)))
    ·simp only[if_neg hi];rw[Ve i hi]
     exact(h9 i x (MB i x hi hx) (Fs i hi)).mono hI Uq fun b' q hq=>Ft b' (by
      rintro rfl
      exact h.YU.TK ho (UI i x b' q (MB i x hi hx) (Fs i hi) hq) _ h1)
   ·by_cases hi:i=i0
    ·simp only[if_pos hi]at hq;exact .inl ⟨rfl,q,hq⟩
    ·simp only[if_neg hi]at hq;exact .inr (UI i x b' q (MB i x hi hx) (Fs i hi) hq)
   ·by_cases hi:i=i0<;>by_cases Vg:i'=i0
    ·rw[hi,Vg]
    ·simp only[if_pos hi]at hq;simp only[if_neg Vg]at Vz;exact(nZ i' x' b' q' q (MB i' x' Vg Vq) Vg Vz hq).elim
    ·simp only[if_neg hi]at hq;simp only[if_pos Vg]at Vz;exact(nZ i x b' q q' (MB i x hi hx) hi hq Vz).elim
    ·simp only[if_neg hi]at hq;simp only[if_neg Vg]at Vz;exact Tl i x i' x' b' q q' (MB i x hi hx) (Fs i hi) (MB i' x' Vg Vq) (Fs i' Vg) hq Vz
  ·rw[if_neg e1]at hj;split at hj
   ·cases hj
   ·rename_i Sx
    cases hl:look s.hp j with
    |none=>rw[hl]at hj;cases hj
    |some o1=>
     rw[hl]at hj;simp only[a8H,a3y]at hj;subst hj
     have hblk:∀i,ZZ ψ j i->w'.heap[i]? =w.heap[i]? :=fun i hi=>Ft i (by
      rintro rfl
      exact e1 (h.inj id j _ o1 i ho hl (.inl ⟨_,h1⟩) hi))
     cases o1 with
     |box cs=>
      obtain⟨b2,c,e,g1,g2,g3,g4⟩:=h.YC j _ hl;refine⟨b2,c,e,g1,by rw[hblk b2 (.inl ⟨_,g1⟩)];exact g2,by simpa using g3,fun i x hx=>?_⟩;rw[a1C]at hx
      cases V9:cs[i]? with
      |none=>rw[V9]at hx;cases hx
      |some c0=>
       rw[V9]at hx;cases hx;have h6:=g4 i c0 V9
       cases c0 with
       |agg l=>exact .junk _
       |Zp l=>exact .junk _
       | _=>exact hf _ _ h6 (by simp) (by simp)
     |gh Z vs cs=>
      obtain⟨g1,g2,g3,g4⟩:=h.YC j _ hl;refine⟨g1,g2.mono hI (fun b hb=> .inr hb) Uq (fun b hb=>hblk b (.inr hb)),by simpa using g3,fun i x hx=>?_⟩;rw[a1C]at hx
      cases V9:cs[i]? with
      |none=>rw[V9]at hx;cases hx
      |some c0=>rw[V9]at hx;cases hx;exact(g4 i c0 V9).ZS hf (fun _=>rfl) (fun _=>rfl)
     | _=>exact(h.YC j _ hl).move (by constructor<;>(intros;intro e;cases e)) hI Uq ⟨rfl,fun b hb=> .inr hb⟩ hblk
 ·intro i i' oi oi' x hi Vg hx Vq;obtain⟨n1,q⟩:=back hi hx;obtain⟨n2,q'⟩:=back Vg Vq
  rcases q with⟨u,q1,q2⟩|⟨q1,q2⟩<;>rcases q' with⟨u',Sb,NL⟩|⟨Sb,NL⟩
  ·exact h.inj i i' u u' x q1 Sb q2 NL
  ·exact absurd (h.inj i d u o x q1 Tn q2 NL) n1
  ·exact absurd (h.inj i' d u' o x Sb Tn NL q2) n2
  ·rw[q1,Sb]
 ·intro i oi x hi hx;rw[Xj]at hi
  by_cases e1:id=i
  ·subst e1;rw[if_pos rfl]at hi;cases hi
   rcases Fv.1 hx with hx|⟨k,hx⟩
   ·have:=h.own id _ x ho hx;exact this
   ·rcases h.own d o x Tn (.inl ⟨k,hx⟩)with⟨q1,q2⟩|q1
    ·left
     have e:o.org d=id:=by
      cases o with
      |YN org z ys=>
       rcases Sy with h|h
       ·cases h
       ·simp only[Ob.org?,a3y]at h;exact h
      |list z ys=>
       have:=E.big d q1;omega
      | _=>cases Xm
     rw[e]at q1 q2;exact⟨q1,q2⟩
    ·exact .inr q1
  ·rw[if_neg e1]at hi;split at hi
   ·cases hi
   ·cases hl:look s.hp i with
    |none=>rw[hl]at hi;cases hi
    |some o1=>
     rw[hl]at hi;simp only[a8H,a3y]at hi;subst hi;rw[Ob.TL];exact h.own i o1 x hl ((o3 (Ne.symm e1)).1 hx)
 ·intro i oi x hi hx;rw[Xj]at hi;rw[Ya]
  by_cases e1:id=i
  ·subst e1;rw[if_pos rfl]at hi;cases hi
   rcases hx with⟨_,k,hx⟩|hx
   ·refine⟨rfl,(h.YC d o Tn).lt hx,fun k' e=>?_⟩;exact ZV (h.inj d id o _ x Tn ho (.inl ⟨k,hx⟩) (.inl ⟨k',e⟩))
   ·obtain⟨_,q2,q3⟩:=h.YU id _ x ho hx;exact⟨rfl,q2,q3⟩
  ·rw[if_neg e1]at hi;split at hi
   ·cases hi
   ·cases hl:look s.hp i with
    |none=>rw[hl]at hi;cases hi
    |some o1=>
     rw[hl]at hi;simp only[a8H,a3y]at hi;subst hi;rw[Ob.Vv]
     have hx:ψ.sub i x:=by
      rcases hx with⟨h,_⟩|h
      ·exact absurd h.symm e1
      ·exact h
     exact h.YU i o1 x hl hx
 ·intro i hi hm;rw[Ft i ?_]
  ·exact h.old i hi hm
  ·rintro rfl
   rcases h.own id _ i ho (.inl ⟨_,h1⟩)with⟨q1,q2⟩|q1
   ·exact hm (.inl ⟨_,q1,q2⟩)
   ·exact E.no hi hm q1
 ·rw[Ya];exact h.grow
theorem ldL{t:TypeId}{x:Operand}(hc:comp P ⟨dst, .load t x,ty,pos,af,g⟩=some r)(hd:d<1000)(h:Z7 E n ψ s a w)(hk:ZQ P d s K r)
 {id sz i off z:Nat} {xs:List (List (List IV))} {hole:Option Nat} (hx:s.ev x= .ep id sz i off) (ho:look s.hp id=some (.ZI z xs hole)):
 ∃v,(∀u,Ext w u->(Instr.loadAt t (a.eval x)).run P u= .ok v u)/\∃ZF s' av,Z7 E n ZF s' a w/\K s' av/\ZL (Im E ZF s'.hp) ZF s'.hp w av v:=by
 simp only[comp]at hc
 cases hu:P.underlying t with
 |none=>rw[hu]at hc;cases hc
 |some dd=>
  simp only[hu,a5V,a9J]at hc
  by_cases hg:XT P t=true
  ·rw[if_pos hg]at hc
   cases hi:XY P t with
   |none=>rw[hi]at hc;cases hc
   |some k=>
    rw[hi]at hc;simp only[a8H,a3y]at hc;subst hc;simp only[ZQ,hx,ho]at hk
  ·have hg:XT P t=false:=by simpa using hg
   simp only[hg,a1N,if_false]at hc
   have hc:V7.ld x none=r:=by simpa using hc
   subst hc;simp only[ZQ,hx,ho]at hk;obtain⟨rfl,rfl,Vi,he,hl,hk⟩:=hk;split at hk
   ·rename_i ys hys;have hf:=h.drop (id:=d) hd;have YQ:=LI s d;generalize s.drop d=s1 at hk hf YQ he hl;have M4:=hf.ev x;rw[he]at M4;obtain⟨b,k,o,m,q1,q2,q3,q4,q5⟩:=b6O M4;obtain⟨c,e,p1,p2,Zj,p3,p4⟩:=hf.Fw hd YQ hl hys q4;refine⟨_,fun u KA=>?_,Zj,_,_,p3,hk,p4⟩;rw[q5]
    have e3:k.1+(i*1+0)=k.1+i:=by omega
    rw[e3];exact e5o u hu hg (KA.cell (G2 p1 p2))
   ·exact hk.elim
theorem b6D{t:TypeId}{x:Operand}(hc:comp P ⟨dst, .load t x,ty,pos,af,g⟩=some r)(hd:d<1000)(h:Z7 E n ψ s a w)(hk:ZQ P d s K r):
 ∃v,(∀u,Ext w u->(Instr.loadAt t (a.eval x)).run P u= .ok v u)/\∃ZF s' av,Z7 E n ZF s' a w/\K s' av/\ZL (Im E ZF s'.hp) ZF s'.hp w av v:=by
 by_cases hex:∃id sz i off z xs hole,s.ev x= .ep id sz i off/\look s.hp id=some (.ZI z xs hole)
 ·obtain⟨id,sz,i,off,z,xs,hole,hx,ho⟩:=hex;exact ldL hc hd h hk hx ho
 ·obtain⟨v,av,h1,h2,h3⟩:=e8o hc h hk fun id sz i off z xs hole hx ho=>hex ⟨id,sz,i,off,z,xs,hole,hx,ho⟩
  exact⟨v,h1,ψ,s,av,h,h2,h3⟩
theorem b7D{t:TypeId}{x:Operand}(hc:comp P ⟨dst, .load t x,ty,pos,af,g⟩=some r)(hd:d<1000)(h:Z7 E n ψ s a w)(hk:ZQ P d s K r):XX P E n ⟨dst, .load t x,ty,pos,af,g⟩ a w K:=by
 obtain⟨v,h1,ZF,s',av,h2,h3,h4⟩:=b6D hc hd h hk;refine Sh (v:=v) ?_ h3 h2 h4;simp only[execOp,Sem.run_bind,h1 w (Ext.refl w),Result.andThen_ok,Sem.run_pure]
theorem b8D{t:TypeId}{x:Operand}(hc:comp P ⟨dst, .load t x,ty,pos,af,g⟩=some r)(hd:d<1000)(h:Z7 E n ψ s a w)(hk:ZQ P d s K r):
 ∃v,∀u,Ext w u->(execOp a.eval ⟨dst, .load t x,ty,pos,af,g⟩).run P u= .ok (.value v) u:=by
 obtain⟨v,h1,_⟩:=b6D hc hd h hk;refine⟨v,fun u hu=>?_⟩;simp only[execOp,Sem.run_bind,h1 u hu,Result.andThen_ok,Sem.run_pure]
theorem b9D{t:TypeId}{x y:Operand}{q:Nat}(hq:XY P t=some q)(h:Z7 E n ψ s a w)(hk:ZQ P d s K (.st x y q)):
 XX P E n ⟨dst, .store t x y,ty,pos,af,g⟩ a w K:=by
 by_cases hex:∃id sz i off z xs hole,s.ev x= .ep id sz i off/\look (s.YX [s.ev y]).hp id=some (.ZI z xs hole)
 ·obtain⟨id,sz,i,off,z,xs,hole,hx,ho⟩:=hex;simp only[ZQ,hx,ho]at hk;split at hk
  ·rename_i d' Zz len hye;split at hk
   ·rename_i o Tn;split at hk
    ·rename_i z0 ys Xm;obtain⟨hl,⟨rfl,rfl⟩,rfl,M3,ZV,rfl,Sy,rfl,hk⟩:=hk;have M4:=h.ev x;rw[hx]at M4;obtain⟨b,k,o1,m,q1,q2,q3,q4,q5⟩:=b6O M4;rw[hl]at q1;cases q1;simp only[Ob.dim,a3y,a2L]at q2;obtain⟨rfl,rfl⟩:=q2;have hy1:=h.ev y;rw[hye]at hy1
     have Kz:o.TQ=some (Zz,ys):=by
      obtain⟨o2,m2,r1,r2,_⟩:=HS hy1;rw[Tn]at r1;cases r1;have:=c2R Xm;rw[r2]at this;simp only[a3y,a2L]at this;rw[Xm,this.1]
     obtain⟨h0,b1,k1,c,e,pl,h1,h2,h3,h4,h9,UI,Tl⟩:=h.YC id _ hl;rw[h1]at q4;cases q4
     have Ue:(a.eval y).cells.toList=[a.eval y]/\(a.eval y).oneCell'=true:=by
      have:∀L v,ZL (Im E ψ s.hp) ψ s.hp w (.sl d' Zz 0 L) v->v.cells.toList=[v]/\v.oneCell'=true:=by
       intro L v hv;cases hv<;>exact⟨rfl,rfl⟩
      exact this _ _ hy1
     have e3:k.1+(i*1+0)=k.1+i:=by omega
     rw[e3]at q5;obtain⟨w',r1,r2,r3,r4,r5⟩:=a7D (P:=P) b (k.1+i) (a.eval y).cells.toList 0 w c e h2 (by rw[Ue.1];intro v hv;simp only[a1B]at hv;subst hv;exact Ue.2) (by rw[Ue.1];simp;omega)
     have XA:=a1x (dst:=dst) (ty:=ty) (pos:=pos) (af:=af) (g:=g) hq q5 (by rw[<-Array.length_toList,Ue.1];rfl) r1
     obtain⟨Zj,XG⟩:=h.lz (c':=UK c (k.1+i) (a.eval y).cells.toList) M3 ZV hl Tn Kz Sy hy1 h1 h2 r2 r3 r4 r5 (Hj _ _ _) (by rw[DF _ _ _ _ (by omega),if_pos ⟨a8F _,by rw[Ue.1];simp⟩,Ue.1];simp)
      (fun j hj=>by
       by_cases hjs:k.1+j<c.size
       ·rw[DF _ _ _ _ hjs,if_neg (by rw[Ue.1];simp;omega)]
       ·rw[a3E,a3E,b0k (by rw[Hj];omega),b0k (by omega)])
     exact oY XA hk XG
    ·exact hk.elim
   ·exact hk.elim
  ·exact hk.elim
 ·exact a2x hq h hk fun id sz i off z xs hole hx ho=>hex ⟨id,sz,i,off,z,xs,hole,hx,ho⟩
end
end Go.Vm
end

section
namespace Go.Vm
section
variable{P:Program}{E:En}{n:Nat}{ψ:Pl}{s:St}{a:Act}{w:World}
variable{dst:Option Nat}{ty:TypeId}{pos:String}{af:Array Edge}{g:Option (Nat×Bool)}
variable{d:Nat}{K:St->AV->Prop}
theorem c4o{x y:Operand}{ts:Array TypeId}{v:Value}{w':World}(hv:(Builtin.copy_ ts ty #[a.eval x,a.eval y]).run P w= .ok v w'):
 (execOp a.eval ⟨dst, .call ⟨.builtin .copy, #[x,y],ts⟩,ty,pos,af,g⟩).run P w= .ok (.value v) w':=by
 simp only[execOp,resolve,Sem.run_bind,Sem.run_pure,Result.andThen_ok,invoke,builtin];simp[hv]
theorem c5o{ts:Array TypeId}{t e:TypeId}{sz m cap ny capy:Nat}{ad:Addr}{ady:Option Addr}{vs:List Value}{w':World}(h0:ts[0]? =some t)(hu:P.underlying t=some (.slice e))(Ya:XY P e=some sz)(hm:ny=m)
 (h1:(Builtin.firstCells sz ny (.slice ady ny capy)).run P w= .ok vs.toArray w) (h2:(storeCells ad vs).run P w= .ok () w'):
 (Builtin.copy_ ts ty #[.slice (some ad) m cap, .slice ady ny capy]).run P w= .ok (.int .i64 m) w':=by
 subst hm;simp only[Builtin.copy_,h0,c7y,a0F,a5J,Sem.run_bind,run_underlying w hu,run_sizeOf w Ya,Result.andThen_ok,Builtin.lenOf,Sem.run_pure,Nat.min_self,h1,h2];rfl
theorem c6o{x y:Operand}{t e:TypeId}{ts:Array TypeId}{sz:Nat}(h0:ts[0]? =some t)(hu:P.underlying t=some (.slice e))(Ya:XY P e=some sz)(h:Z7 E n ψ s a w)(hk:ZQ P d s K (.cpy sz x y)):
 XX P E n ⟨dst, .call ⟨.builtin .copy, #[x,y],ts⟩,ty,pos,af,g⟩ a w K:=by
 have hx:=h.ev x;have hy:=h.ev y;simp only[ZQ]at hk;generalize hax:s.ev x=ax at hx hk;split at hk
 ·rename_i id sq lo m YH ys he;split at hk
  ·rename_i IG xs ho;obtain⟨⟨IU,rfl⟩,⟨hz1,na,hz3⟩,rfl,CA,hk⟩:=hk;subst hz1 na hz3;obtain⟨o',xm,q1,Sb,q2,X4⟩:=HS hx;rw[ho]at q1;cases q1;have W0:=List.length_pos_iff.2 IU
   rcases X4 with⟨p1,_,p3,_⟩|⟨b,k,cap,ad,p1,p2,p3,p4,QT⟩
   ·omega
   ·obtain⟨Qr,UJ⟩:=h.YC id _ ho
    rcases UJ with⟨Sm,_⟩|⟨b',k',c,e',g1,g2,g3,g3',g4⟩
    ·rw[Sm]at p1;cases p1
    rw[g1]at p1;cases p1;obtain⟨vs,y1,y2,y3,y4,y5,ady,cy,Kb⟩:=b5A h hy he (.inl rfl);obtain⟨w',r1,r2,r3,r4,r5⟩:=a7D (P:=P) b k.1 vs 0 w c e' g2 y5 (by rw[y1,CA];omega);have p2:=p2 (by omega);rw[Nat.zero_mul,b1H]at p2;subst p2
    have hr:=c5o (P:=P) (ty:=ty) (w:=w) (cap:=cap) (capy:=cy) (ady:=ady) h0 hu Ya CA (by rw[<-Kb];exact y2 w rfl) r1
    have h2:=h.MV (o':= .list YH ys) ho (Ob.RM rfl rfl (by omega)) rfl (fun h=>h) g1 r2 r3 r4 fun _ hm=>by
     refine⟨y3, .inr ⟨b,k,_,e',g1,r5,?_,by rw[CA];exact g3',fun i j x hx=>?_⟩⟩
     ·rw[show(vs.zipIdx 0).foldl (fun cs (x,j)=>cs.setIfInBounds (k.1+j) x) c=UK c k.1 vs from rfl,Hj];exact g3
     ·have hb:=mY y3 hx;rw[show(vs.zipIdx 0).foldl (fun cs (x,j)=>cs.setIfInBounds (k.1+j) x) c=UK c k.1 vs from rfl,DF _ _ _ _ (by rw[CA]at hb;omega),if_pos (by omega)];have:=hm _ _ (y4 i j x hx);rw[show k.1+(i*YH+j)-k.1=i*YH+j from by omega];exact this
    exact Sh (c4o (by rw[QT,Kb];exact hr)) hk h2 (UB rfl)
  ·exact hk.elim
 ·exact hk.elim
end
theorem a8Q(z:Array Value)(m:Nat):(Builtin.zeroCells z m).toList.length=m*z.size:=by simp[Builtin.zeroCells]
theorem a9Q(z:Array Value)(m i j:Nat)(hi:i<m)(hj:j<z.size):(Builtin.zeroCells z m).toList.getD (i*z.size+j) undef=z.getD j undef:=by
 have Z2:i*z.size+j<m*z.size:=by
  have h1:(i+1)*z.size<=m*z.size:=a0G _ (by omega);rw[a4N]at h1;omega
 have PE:(i*z.size+j)%z.size=j:=by rw[c4G,c9P,d3x hj]
 rw[Sn];unfold Builtin.zeroCells;simp[a3E,Z2,PE,hj]
theorem a0R{z:Array Value}{m:Nat}{v:Value}(h:v∈(Builtin.zeroCells z m).toList):v∈z.toList:=by
 unfold Builtin.zeroCells at h;rw[Array.toList_map,a0E]at h;obtain⟨i,hi,rfl⟩:=h
 have Z2:i<m*z.size:=by simpa using hi
 have hz:0<z.size:=by
  rcases b0q z.size with e|e
  ·rw[e]at Z2;omega
  ·exact e
 rw[getElem!_pos z _ (Nat.mod_lt _ hz)];simp
section
variable{P:Program}{E:En}{n:Nat}{ψ:Pl}{s:St}{a:Act}{w:World}
variable{dst:Option Nat}{ty:TypeId}{pos:String}{af:Array Edge}{g:Option (Nat×Bool)}
variable{d:Nat}{K:St->AV->Prop}
theorem a1R{x:Operand}{ts:Array TypeId}{v:Value}{w':World}(hv:(Builtin.clear_ ts ty #[a.eval x]).run P w= .ok v w'):
 (execOp a.eval ⟨dst, .call ⟨.builtin .clear, #[x],ts⟩,ty,pos,af,g⟩).run P w= .ok (.value v) w':=by
 simp only[execOp,resolve,Sem.run_bind,Sem.run_pure,Result.andThen_ok,invoke,builtin];simp[hv]
theorem a2R{ts:Array TypeId}{t e:TypeId}{i:TypeInfo}{zv:Value}{m cap:Nat}{ad:Addr}{w':World}(h0:ts[0]? =some t)(hu:P.underlying t=some (.slice e))(hi:P.info? e=some i)(hz:i.zero=some zv)(hm:0<m)
 (h2:(storeCells ad (Builtin.zeroCells zv.cells m).toList).run P w= .ok () w'):
 (Builtin.clear_ ts ty #[.slice (some ad) m cap]).run P w= .ok (.tuple #[]) w':=by
 obtain⟨q,rfl⟩:∃q,m=q+1:=⟨m-1,by omega⟩;simp only[Builtin.clear_,h0,c7y,a0F,Sem.run_bind,run_underlying w hu,Result.andThen_ok,G3 hi hz,h2,Sem.run_pure]
theorem a3R{xs:List (List IV)}{zi:List IV}{lo m:Nat}(h:lo+m<=xs.length):(xs.take lo++a2N m zi++xs.drop (lo+m)).length=xs.length:=by simp;omega
theorem a4R{xs:List (List IV)}{zi:List IV}{lo m:Nat}(h:lo+m<=xs.length)(i:Nat):
 (xs.take lo++a2N m zi++xs.drop (lo+m))[i]? =if lo<=i/\i<lo+m then some zi else xs[i]? :=by
 by_cases h1:i<lo
 ·rw[b9Z,a9L (by simp;omega),if_neg (by omega),List.getElem?_take,if_pos h1]
 ·by_cases h2:i<lo+m
  ·rw[a9L (by simp;omega),a7U (by simp;omega),if_pos (by omega),c1S,if_pos (by simp;omega)]
  ·rw[a7U (by simp;omega),if_neg (by omega),List.getElem?_drop]
   congr 1;simp;omega
theorem a5R{x:Operand}{t e:TypeId}{ts:Array TypeId}{i:TypeInfo}{z:List AV}(h0:ts[0]? =some t)(hu:P.underlying t=some (.slice e))(hi:P.info? e=some i)(hz:QI P e=some z)(F4:z.length=i.size)
 (h:Z7 E n ψ s a w) (hk:ZQ P d s K (.clr i.size z x)):XX P E n ⟨dst, .call ⟨.builtin .clear, #[x],ts⟩,ty,pos,af,g⟩ a w K:=by
 have hx:=h.ev x;simp only[ZQ]at hk;generalize hax:s.ev x=ax at hx hk;split at hk
 ·rename_i id sq lo m zi hzi;split at hk
  ·rename_i IG xs ho;obtain⟨⟨hz1,na⟩,⟨hm,hle⟩,hk⟩:=hk;subst hz1 na;obtain⟨i',zv,z1,z2,rfl⟩:=DA hz;rw[hi]at z1;cases z1
   have Ya:zv.cells.size=i.size:=by rw[G4]at F4;simpa using F4
   obtain⟨g1,g2⟩:=ivz (A:=Im E ψ s.hp) (ψ:=ψ) (H:=s.hp) (w:=w) (vs:=zv.cells.toList) hzi (by rw[G4]) (fun i x hx=>by
    obtain⟨sz,e⟩:=mM _ _ _ _ hx
    rw[e];exact CK _ _)
   have IF:zi.length=i.size:=by rw[g1,F4]
   have PK:∀v∈zv.cells.toList,v.oneCell'=true:=by
    intro v hv;obtain⟨j,hj,rfl⟩:=List.getElem_of_mem hv
    have hj':j<zi.length:=by rw[IF, <-Ya];simpa using hj
    have:=(g2 j _ (a4G hj')).one;rw[a7S,a4G hj]at this;exact this
   obtain⟨o',xm,q1,Sb,q2,X4⟩:=HS hx;rw[ho]at q1;cases q1
   rcases X4 with⟨p1,_,p3,_⟩|⟨b,k,cap,ad,p1,p2,p3,p4,QT⟩
   ·omega
   ·obtain⟨Qr,UJ⟩:=h.YC id _ ho
    rcases UJ with⟨Sm,_⟩|⟨b',k',c,e',q1,NL,q3,MJ,q4⟩
    ·rw[Sm]at p1;cases p1
    rw[q1]at p1;cases p1;have QC:=a8Q zv.cells m;rw[Ya]at QC
    have hmul:lo*i.size+m*i.size<=k.2:=by
     rw[<-a4N];exact a0N (a0G _ (by omega)) p4
    obtain⟨w',r1,r2,r3,r4,r5⟩:=a7D (P:=P) b (k.1+lo*i.size) (Builtin.zeroCells zv.cells m).toList 0 w c e' NL (fun v hv=>PK v (a0R hv)) (by rw[QC];omega);have p2:=p2 (by omega);subst p2;have hr:=a2R (P:=P) (ty:=ty) (w:=w) (cap:=cap) h0 hu hi z2 hm r1;have hll:=a3R (zi:=zi) hle
    have h2:=h.MV (o':= .list i.size (xs.take lo++a2N m zi++xs.drop (lo+m))) ho (Ob.RM rfl rfl (by rw[hll];exact a8F _)) rfl (fun h=>h) q1 r2 r3 r4 fun _ SV=>by
     refine⟨fun x hx=>?_, .inr ⟨b,k,_,e',q1,r5,?_,by rw[hll];exact MJ,fun i' j x hx=>?_⟩⟩
     ·rw[a9E,a9E]at hx
      rcases hx with(hx|hx)|hx
      ·exact Qr x (List.mem_of_mem_take hx)
      ·rw[c6u hx];exact IF
      ·exact Qr x (List.mem_of_mem_drop hx)
     ·rw[show((Builtin.zeroCells zv.cells m).toList.zipIdx 0).foldl (fun cs (x,j)=>cs.setIfInBounds (k.1+lo*i.size+j) x) c=UK c (k.1+lo*i.size) (Builtin.zeroCells zv.cells m).toList from rfl,Hj];exact q3
     ·rw[show((Builtin.zeroCells zv.cells m).toList.zipIdx 0).foldl (fun cs (x,j)=>cs.setIfInBounds (k.1+lo*i.size+j) x) c=UK c (k.1+lo*i.size) (Builtin.zeroCells zv.cells m).toList from rfl];obtain⟨row,y1,y2⟩:=IE hx;rw[a4R hle]at y1
      by_cases XZ:lo<=i'/\i'<lo+m
      ·rw[if_pos XZ]at y1;cases y1
       have hj:j<i.size:=by rw[<-IF];exact(a5y.1 y2).1
       obtain⟨i2,rfl⟩:∃i2,i'=lo+i2:=⟨i'-lo,by omega⟩
       have mu:i2<m:=by omega
       have Dq:i2*i.size+j<m*i.size:=by
        have h1:(i2+1)*i.size<=m*i.size:=a0G _ (by omega);rw[a4N]at h1;omega
       have he:k.1+((lo+i2)*i.size+j)=k.1+lo*i.size+(i2*i.size+j):=by rw[a4N];omega
       rw[he,DF _ _ _ _ (by omega),if_pos (by rw[QC];omega),show k.1+lo*i.size+(i2*i.size+j)-(k.1+lo*i.size)=i2*zv.cells.size+j from by rw[Ya];omega,a9Q _ _ _ _ mu (by omega), <-Sn]
       exact SV _ _ (g2 j x y2)
      ·rw[if_neg XZ]at y1;have UH:=mX y1 y2;have hb:=mY Qr UH
       have g1w:¬(k.1+lo*i.size<=k.1+(i'*i.size+j)/\k.1+(i'*i.size+j)<k.1+lo*i.size+(Builtin.zeroCells zv.cells m).toList.length):=by
        rw[QC];rintro⟨u1,u2⟩;apply XZ;constructor
        ·apply d6x;intro Z2;have h1:(i'+1)*i.size<=lo*i.size:=a0G _ (by omega);rw[a4N]at h1;omega
        ·apply Nat.lt_of_not_le;intro X9;have h1:(lo+m)*i.size<=i'*i.size:=a0G _ X9;rw[a4N]at h1;omega
       rw[DF _ _ _ _ (by omega),if_neg g1w];exact SV _ _ (q4 i' j x UH)
    exact Sh (a1R (by rw[QT];exact hr)) hk h2 (.Zp [] #[] rfl (fun i c hc=>by simp at hc))
  ·exact hk.elim
 ·exact hk.elim
end
section
variable{P:Program}{E:En}{n:Nat}{ψ:Pl}{s:St}{a:Act}{w:World}
variable{d:Nat}{K:St->AV->Prop}{r:V7}
theorem bind_some{α β:Type}{x:Option α}{f:α->Option β}{y:β}(h:(x >>= f)=some y):∃z,x=some z/\f z=some y:=by
 cases x with
 |none=>cases h
 |some z=>exact⟨z,rfl,h⟩
theorem Vb{α β:Type}{x:Option α}{f:α->β}{y:β}(h:x.map f=some y):∃z,x=some z/\f z=y:=by
 cases x with
 |none=>cases h
 |some z=>exact⟨z,rfl,by simpa using h⟩
theorem GM{α:Type}{xs:Array α}{x:α}(h:xs.toList=[x]):xs= #[x]:=by apply b1p;simpa using h
theorem kT{α:Type}{xs:Array α}{x y:α}(h:xs.toList=[x,y]):xs= #[x,y]:=by apply b1p;simpa using h
theorem b8K{o:Oper}(hc:comp P o=some r)(hd:d<1000)(h:Z7 E n ψ s a w)(hk:ZQ P d s K r):XX P E n o a w K:=by
 obtain⟨dst,op,ty,pos,af,g⟩:=o;have IJ:=hc;unfold comp at hc;split at hc
 ·rename_i x heq;cases heq;split at hc
  ·simp only[a3y]at hc;subst hc;exact a7E (.inl rfl) hd h hk
  ·simp only[a3y]at hc;subst hc;exact(a6E (.inl rfl) h hk).does
 ·rename_i x heq;cases heq;split at hc
  ·simp only[a3y]at hc;subst hc;exact a7E (.inr rfl) hd h hk
  ·simp only[a3y]at hc;subst hc;exact(a6E (.inr rfl) h hk).does
 ·rename_i heq;cases heq;exact(b5P IJ h hk).does
 ·rename_i heq;cases heq;obtain⟨z,hz,rfl⟩:=Vb hc;exact a1F hz hd h hk
 ·rename_i heq;cases heq;simp only[a3y]at hc;subst hc;exact a2F hd h hk
 ·rename_i t parts heq;cases heq;split at hc
  ·rename_i fs hu;split at hc
   ·rename_i Zq;obtain⟨z,hz,hc⟩:=bind_some hc;obtain⟨l,hl,hc⟩:=bind_some hc;simp only[a2I,a3y]at hc;subst hc;exact(a5D hu hz (fun f hf=>by simpa using(d3i.1 Zq) f hf) hl h hk).does
   ·cases hc
  ·rename_i hu;obtain⟨q,hq,hc⟩:=bind_some hc;obtain⟨z,hz,hc⟩:=bind_some hc;simp only[a2I,a3y]at hc;subst hc;exact(a6D hu hq hz h hk).does
  ·cases hc
 ·rename_i t len parts heq;cases heq;split at hc
  ·rename_i e hu;obtain⟨sz,Ya,hc⟩:=bind_some hc;split at hc
   ·rename_i hp;obtain⟨z,hz,hc⟩:=bind_some hc;simp only[a2I,a3y]at hc;subst hc;exact e1p hu Ya hp.1 hp.2.1 hp.2.2.1 hp.2.2.2 hz hd h hk
   ·cases hc
  ·cases hc
 ·rename_i heq;cases heq;exact b7D IJ hd h hk
 ·rename_i heq;cases heq;obtain⟨q,hq,rfl⟩:=Vb hc;exact b9D hq h hk
 ·rename_i heq;cases heq;exact(b6P IJ h hk).does
 ·rename_i op xt x y yt heq;cases heq;split at hc
  ·simp only[a3y]at hc;subst hc;exact(b9P h hk).does
  ·simp only[a3y]at hc;subst hc;exact(b9P h hk).does
  ·rename_i hu;split at hc
   ·simp only[a3y]at hc;subst hc;exact(b2Q hu rfl h hk).does
   ·simp only[a3y]at hc;subst hc;exact(b2Q hu rfl h hk).does
   ·cases hc
  ·rename_i hu;split at hc
   ·simp only[a3y]at hc;subst hc;exact(b5Q hu rfl h hk).does
   ·simp only[a3y]at hc;subst hc;exact(b5Q hu rfl h hk).does
   ·cases hc
  ·rename_i hu;split at hc
   ·simp only[a3y]at hc;subst hc;exact(b8Q hu rfl h hk).does
   ·simp only[a3y]at hc;subst hc;exact(b8Q hu rfl h hk).does
   ·cases hc
  ·rename_i hu;split at hc
   ·rename_i hg
    cases WQ:RL P 20 xt with
    |none=>rw[WQ]at hc;cases hc
    |some ks=>
     rw[WQ]at hc;simp only[a9J]at hc;split at hc
     ·cases hc
     ·rename_i hi
      have hi:XY P xt=some ks.length:=by simpa using hi
      split at hc
      ·simp only[a3y]at hc;subst hc;exact(a9x hu hg WQ rfl h hk hi).does
      ·simp only[a3y]at hc;subst hc;exact(a9x hu hg WQ rfl h hk hi).does
      ·cases hc
   ·cases hc
  ·cases hc
 ·rename_i heq;cases heq;simp only[a3y]at hc;subst hc;exact(b9Q h hk).does
 ·rename_i heq;cases heq;split at hc
  ·rename_i h1 h2;simp only[a3y]at hc;subst hc;exact(b0R h1 h2 h hk).does
  ·cases hc
 ·rename_i heq;cases heq;simp only[a3y]at hc;subst hc;exact(a7F h hk).does
 ·-- makeMap
  rename_i heq;cases heq;split at hc
  ·rename_i k e hu;obtain⟨q,hq,rfl⟩:=Vb hc;exact d3e (k:=k) (e:=e) hd h hk
  ·cases hc
 ·-- makeSlice
  rename_i heq;cases heq;split at hc
  ·rename_i hu;obtain⟨i,hi,hc⟩:=bind_some hc;obtain⟨z,hz,hc⟩:=bind_some hc;split at hc
   ·rename_i hp;simp only[a2I,a3y]at hc;subst hc;exact e6x hu hi hz hp.1 hp.2 hd h hk
   ·cases hc
  ·cases hc
 ·rename_i heq;cases heq;split at hc
  ·rename_i hu;obtain⟨sz,Ya,rfl⟩:=Vb hc;exact(c9s hu Ya h hk).does
  ·cases hc
 ·rename_i heq;cases heq;split at hc
  ·rename_i hu;obtain⟨f,hf,hc⟩:=bind_some hc;obtain⟨q,hq,hc⟩:=bind_some hc;split at hc
   ·cases hc
   ·rename_i mB;simp only[a2I,a3y]at hc;subst hc;exact(c8r hu hf hq mB h hk).does
  ·cases hc
 ·rename_i heq;cases heq;split at hc
  ·rename_i hu;obtain⟨f,hf,hc⟩:=bind_some hc;obtain⟨q,hq,hc⟩:=bind_some hc;obtain⟨dd,Du,hc⟩:=bind_some hc;simp only[a2I,a3y]at hc;subst hc;exact(c2s hu hf hq Du h hk).does
  ·cases hc
 ·rename_i heq;cases heq;split at hc
  ·rename_i hu;obtain⟨sz,Ya,rfl⟩:=Vb hc;exact(c3s hu Ya h hk).does
  ·cases hc
 ·rename_i heq;cases heq;split at hc
  ·rename_i hu;simp only[a3y]at hc;subst hc;exact(c4s hu h hk).does
  ·rename_i hu;split at hc
   ·rename_i hq;obtain⟨dd,hd⟩:=c3t.1 hq.2.2;simp only[a3y]at hc;subst hc;exact(c5s hu hq.1 hq.2.1 hd h hk).does
   ·cases hc
  ·cases hc
 ·-- lookup
  rename_i heq;cases heq;split at hc
  ·rename_i hu;obtain⟨sk,UA,hc⟩:=bind_some hc;obtain⟨z,hz,hc⟩:=bind_some hc;split at hc
   ·rename_i QF;simp only[a2I,a3y]at hc;subst hc;exact e0w hu UA hz QF hd h hk
   ·cases hc
  ·cases hc
 ·-- mapEntry
  rename_i heq;cases heq;split at hc
  ·rename_i hu;obtain⟨sk,UA,hc⟩:=bind_some hc;obtain⟨z,hz,hc⟩:=bind_some hc;split at hc
   ·rename_i QF;simp only[a2I,a3y]at hc;subst hc;exact c2o hu UA hz QF h hk
   ·cases hc
  ·cases hc
 ·rename_i heq;cases heq;simp only[a3y]at hc;subst hc;exact c3o h hk
 ·rename_i heq;cases heq;split at hc
  ·rename_i hu;obtain⟨q,hq,rfl⟩:=Vb hc;exact b7X hu hd h hk
  ·cases hc
 ·rename_i heq;cases heq;simp only[a3y]at hc;subst hc;exact b2Y h hk
 ·rename_i heq;cases heq;simp only[a3y]at hc;subst hc;exact b3Y h hk
 ·rename_i heq;cases heq;split at hc
  ·rename_i hu;obtain⟨q,hq,rfl⟩:=Vb hc;exact e1w hu hq h hk (.inl rfl)
  ·cases hc
 ·rename_i heq;cases heq;split at hc
  ·rename_i hu;obtain⟨q,hq,rfl⟩:=Vb hc;exact e1w hu hq h hk (.inr rfl)
  ·cases hc
 ·rename_i heq;cases heq;simp only[a3y]at hc;subst hc;exact(b1R h hk).does
 ·rename_i c heq;cases heq;obtain⟨cl,args,ts⟩:=c;simp only at hc;split at hc
  ·split at hc
   ·rename_i hf;simp only[a3y]at hc;subst hc;exact d5X hf hd h hk
   ·cases hc
  ·simp only[a3y]at hc;subst hc;exact d8X hd h hk
  ·split at hc
   ·rename_i x t h1 h2;have e1:=GM h1;have e2:=GM h2;subst e1;subst e2;split at hc
    ·rename_i hu;simp only[a3y]at hc;subst hc;exact(c6r rfl hu h hk).does
    ·rename_i hu;simp only[a3y]at hc;subst hc;exact(c7r rfl hu h hk).does
    ·rename_i hu;simp only[a3y]at hc;subst hc;exact b9s rfl hu h hk
    ·cases hc
   ·cases hc
  ·split at hc
   ·rename_i x y t u h1 h2;have e1:=kT h1;subst e1;exact d6U IJ hd h hk
   ·cases hc
  ·simp only[a3y]at hc;subst hc;exact a5F (mx:=false) h hk
  ·simp only[a3y]at hc;subst hc;exact a5F (mx:=true) h hk
  ·-- delete
   split at hc
   ·rename_i m k t ts' h1 h2;have e1:=kT h1;subst e1;split at hc
    ·rename_i hu;obtain⟨q,hq,rfl⟩:=Vb hc;exact b8s (by rw[<-a1E,h2];rfl) hu hq h hk
    ·cases hc
   ·cases hc
  ·-- copy
   split at hc
   ·rename_i x y t ts' h1 h2;have e1:=kT h1;subst e1;split at hc
    ·rename_i hu;obtain⟨q,hq,rfl⟩:=Vb hc;exact c6o (by rw[<-a1E,h2];rfl) hu hq h hk
    ·cases hc
   ·cases hc
  ·-- clear
   split at hc
   ·rename_i x t ts' h1 h2;have e1:=GM h1;subst e1;split at hc
    ·rename_i hu;obtain⟨i,hi,hc⟩:=bind_some hc;obtain⟨z,hz,hc⟩:=bind_some hc;split at hc
     ·rename_i F4;simp only[a3y]at hc;subst hc;exact a5R (by rw[<-a1E,h2];rfl) hu hi hz F4 h hk
     ·cases hc
    ·cases hc
   ·cases hc
  ·cases hc
 ·cases hc
end
inductive VT where
 |done
 |op (o:Yd) (t:VT)
 |alt (a b:VT)
 deriving Inhabited
inductive Z9 where
 |skip
 |Dl (ops:List Yd)
 |any (t:VT)
 |seq (a b:Z9)
 |cond (x:Operand) (t e:Z9)
 |block (id:Nat) (c:Z9)
 |loop (c:Z9)
 |exit (id:Nat)
 |ret
 |goto (l:Nat)
 |scope (c:Z9)
 |WC (c:Z9) (l:Nat) (rest:Z9)
 |QB (g:Operand) (ps:List Nat) (x y:Z9)
 deriving Inhabited
def St.lit(s:St)(t:Nat)(b:Bool):St:=⟨(t, .iv (.v (.bool b)))::s.fr,s.hp⟩
theorem e6d{s:St}{t:Nat}{b:Bool}(h:s.get t= .iv (.v (.bool b)))(i:Nat):(s.lit t b).get i=s.get i:=by
 simp only[St.get,St.lit,look];split
 ·rename_i e;subst e;simp only[St.get]at h;rw[h];rfl
 ·rfl
theorem Z7.lit{E:En}{n:Nat}{ψ:Pl}{s:St}{a:Act}{w:World}(h:Z7 E n ψ s a w){t:Nat}{b:Bool}(hb:s.get t= .iv (.v (.bool b))):Z7 E n ψ (s.lit t b) a w:=
 {h with frame:=fun i=>by rw[e6d hb];exact h.frame i}
def VA(P:Program)(o:Yd)(s:St)(K:St->Prop):Prop:=
 match o.g with
 |none=>ZQ P (o.d.getD 999) s (fun s' x=>K (s'.put o.d x)) o.r
 |some (t,b)=>match s.get t with
  | .iv (.v (.bool c))=>(c=b->ZQ P (o.d.getD 999) (s.lit t b) (fun s' x=>K (s'.put o.d x)) o.r)/\(c= !b->K ((s.lit t !b).put o.d .un))
  | .un=>K (s.put o.d .un)
  | _=>False
def Ui(P:Program):List Yd->St->(St->Prop)->Prop
 | [],s,K=>K s
 |o::r,s,K=>VA P o s fun s'=>Ui P r s' K
def Tk(P:Program):VT->St->(St->Prop)->Prop
 | .done,s,K=>K s
 | .op o t,s,K=>VA P o s fun s'=>Tk P t s' K
 | .alt a b,s,K=>Tk P a s K/\Tk P b s K
section
variable{P:Program}{E:En}{n:Nat}{s:St}{a:Act}{w:World}
theorem e8d{ψ:Pl}(h:Z7 E n ψ s a w){ops:Array Oper}{j t:Nat}(ht:(ops[j]?).bind (·.dst)=some t):
 (∀c,s.get t= .iv (.v (.bool c))->yielded ops a.tmps j=some c)/\(s.get t= .un->yielded ops a.tmps j=none):=by
 have hf:=h.frame t;unfold yielded;rw[ht];simp only[a9J];constructor
 ·intro c hc;rw[hc]at hf;have hv:=Vp hf
  by_cases Z2:t<a.tmps.size
  ·rw[getD_some Z2 (d:=undef),hv]
  ·rw[a3E,b0k (by omega)]at hv;cases hv
 ·intro hc;rw[hc]at hf
  have hv:a.tmps.getD t undef=undef:=by
   generalize a.tmps.getD t undef=z at hf;cases hf;rfl
  by_cases Z2:t<a.tmps.size
  ·rw[getD_some Z2 (d:=undef),hv];rfl
  ·rw[b0k (by omega)]
theorem e9d{ops:Array Oper}{o:Oper}{vo:Yd}(hc:LH P n ops o=some vo)(hn:n<=999){K:St->Prop}{K':Act->World->Prop}(hs:T8 E n s a w)
 (hk:VA P vo s K) (hK:∀s' a' w',T8 E n s' a' w'->K s'->K' a' w'):
 if Region.wanted o (yielded ops a.tmps)then MQ P o a w K' else K' (a.put o.dst undef) w:=by
 obtain⟨ψ,h⟩:=hs;unfold LH at hc;obtain⟨g,hg,hc⟩:=bind_some hc;obtain⟨r,hr,hc⟩:=bind_some hc;split at hc
 ·rename_i GU;simp only[a2I,a3y]at hc;subst hc
  have hd:∀i,o.dst=some i->i<n:=by
   intro i hi;rw[hi]at GU;simpa[GR]using GU
  have DC:o.dst.getD 999<1000:=by
   cases ho:o.dst with
   |none=>simp
   |some i=>exact a6R (hd i ho) (a0N hn (by decide))
  have run:∀s1,Z7 E n ψ s1 a w->ZQ P (o.dst.getD 999) s1 (fun s' x=>K (s'.put o.dst x)) r->MQ P o a w K':=by
   intro s1 h1 YD;refine b8K hr DC h1 YD K' (fun _ _ _=>False) ?_;intro s' av ZF v w' hk hs hv;refine hK (s'.put o.dst av) _ _ ⟨ZF,hs.put hd hv⟩ hk
  have skip:∀s1,Z7 E n ψ s1 a w->K (s1.put o.dst .un)->K' (a.put o.dst undef) w:=fun s1 h1 hk=>hK _ _ _ ⟨ψ,h1.put hd .un⟩ hk
  unfold c9Q at hg
  cases QK:o.guard with
  |none=>
   rw[QK]at hg;simp only[a3y]at hg;subst hg;simp only[VA]at hk;rw[if_pos (by simp[Region.wanted,QK])];exact run _ h hk
  |some jb=>
   obtain⟨j,b⟩:=jb;rw[QK]at hg;obtain⟨t,ht,rfl⟩:=Vb hg;simp only[VA]at hk;have hy:=e8d h ht;split at hk
   ·rename_i c hc;have CG:=hy.1 c hc
    by_cases hcb:c=b
    ·rw[if_pos (by simp[Region.wanted,QK,CG,hcb])];subst hcb;exact run _ (h.lit (by assumption)) (hk.1 rfl)
    ·rw[if_neg (by simp[Region.wanted,QK,CG,hcb])]
     have mI:c= !b:=by cases c<;>cases b<;>simp_all
     subst mI;exact skip _ (h.lit (by assumption)) (hk.2 rfl)
   ·rename_i hc;have CG:=hy.2 hc;rw[if_neg (by simp[Region.wanted,QK,CG])];exact skip _ h hk
   ·exact hk.elim
 ·cases hc
def e0e(P:Program)(ops:Array Oper)(Q:Exit->Act->World->Prop):List Oper->Act->World->Prop
 | [],a,w=>Q .normal a w
 |o::rest,a,w=>if Region.wanted o (yielded ops a.tmps)then MQ P o a w (e0e P ops Q rest)else e0e P ops Q rest (a.put o.dst undef) w
theorem e1e{ops:Array Oper}{Q:Exit->Act->World->Prop}(ro:Option Nat)(m:Nat):∀(l:List Oper),(∀o∈l,∀c,o.op≠ .defer c)->∀(a:Act) (w:World),e0e P ops Q l a w->wpListIn (mD ro) m P ops Q l a w:=by
 intro l
 induction l with
 |nil=>intro _ a w h;exact h
 |cons o l ih=>
  intro VM a w h
  have ih:=ih fun o ho=>VM o (a9C _ ho)
  simp only[e0e]at h;simp only[wpListIn];split
  ·rename_i hw;rw[if_pos hw]at h;exact Oper.wpIn_mono ih (e5n (VM o a4E) h ro m Q)
  ·rename_i hw;rw[if_neg hw]at h;exact⟨fun _ _=>by cases ro<;>trivial,ih _ _ h⟩
theorem e2e{ops:Array Oper}(hn:n<=999){N:St->Prop}{Q:Exit->Act->World->Prop}(hQ:∀s a w,T8 E n s a w->N s->Q .normal a w):
 ∀(l:List Oper) (vl:List Yd) (s:St) (a:Act) (w:World),l.mapM (LH P n ops)=some vl->T8 E n s a w->Ui P vl s N->e0e P ops Q l a w:=by
 intro l
 induction l with
 |nil=>intro vl s a w hc hs hk;simp at hc;subst hc;exact hQ _ _ _ hs hk
 |cons o l ih=>
  intro vl s a w hc hs hk;rw[a0Q]at hc;obtain⟨vo,ho,hc⟩:=bind_some hc;obtain⟨vr,hr,hc⟩:=bind_some hc;simp only[a2I,a3y]at hc;subst hc;simp only[Ui]at hk;have:=e9d (K':=e0e P ops Q l) ho hn hs hk (fun s' a' w' QS SS=>ih vr s' a' w' hr QS SS);unfold e0e;exact this
end
section
variable{P:Program}{ops:Array Oper}{Q:Exit->Act->World->Prop}{md:Region.Mode}
def H3(P:Program)(ops:Array Oper)(i:Nat)(K:Act->World->Prop)(a:Act)(w:World):Prop:=match ops[i]? with
 |none=>K a w
 |some o=>if Region.wanted o (yielded ops a.tmps)then MQ P o a w K else K (a.put o.dst undef) w
theorem a3O{i:Nat}{a:Act}{w:World}{K K':Act->World->Prop}(h:∀a w,K a w->K' a w)(hh:H3 P ops i K a w):H3 P ops i K' a w:=by
 unfold H3 at*;split
 ·rename_i hi;rw[hi]at hh;exact h _ _ hh
 ·rename_i o hi;rw[hi]at hh;simp only at hh;split
  ·rename_i hw;rw[if_pos hw]at hh;exact e2n h hh
  ·rename_i hw;rw[if_neg hw]at hh;exact h _ _ hh
theorem a4O(VM:∀o∈ops.toList,∀c,o.op≠ .defer c)(ro:Option Nat)(m:Nat){i:Nat}{a:Act}{w:World}{K:Act->World->Prop}(hh:H3 P ops i K a w):wpOpIn (mD ro) m P ops Q i K a w:=by
 unfold H3 at hh;unfold wpOpIn;split
 ·rename_i hi;rw[hi]at hh;exact hh
 ·rename_i o hi;rw[hi]at hh;simp only at hh
  have ho:o∈ops.toList:=by rw[<-a1E]at hi;exact a6y hi
  split
  ·rename_i hw;rw[if_pos hw]at hh;exact e5n (VM o ho) hh ro m Q
  ·rename_i hw;rw[if_neg hw]at hh;exact⟨fun _ _=>by cases ro<;>trivial,hh⟩
def Oi(P:Program)(ops:Array Oper)(I:World->Prop)(o:Oper)(v:Value)(a:Act):Prop:=
 (Region.wanted o (yielded ops a.tmps)=true/\∀w,I w->(execOp a.eval o).run P w= .ok (.value v) w)∨
 (Region.wanted o (yielded ops a.tmps)=false/\v=undef)
def WO(Uk:Oper->Bool)(P:Program)(ops:Array Oper)(i:Nat)(K:Act->World->Prop)(a:Act)(w:World):Prop:=
 match ops[i]? with
 |none=>K a w
 |some o=>if Uk o then ∃v,Oi P ops (· =w) o v a/\K (a.put o.dst v) w else H3 P ops i K a w
theorem a6O{Uk:Oper->Bool}{i:Nat}{a:Act}{w:World}{K K':Act->World->Prop}(h:∀a w,K a w->K' a w)
 (hh:WO Uk P ops i K a w):WO Uk P ops i K' a w:=by
 unfold WO at*;split
 ·rename_i hi;rw[hi]at hh;exact h _ _ hh
 ·rename_i o hi;rw[hi]at hh;simp only at hh⊢
  by_cases YD:Uk o=true
  ·rw[if_pos YD]at hh⊢;obtain⟨v,h1,h2⟩:=hh;exact⟨v,h1,h _ _ h2⟩
  ·rw[if_neg YD]at hh⊢;exact a3O h hh
theorem Oi.wpOp{I:World->Prop}{i:Nat}{o:Oper}{v:Value}{a:Act}(hi:ops[i]? =some o)(hy:Oi P ops I o v a)
 {K:Act->World->Prop} {w:World} (hI:I w) (h:K (a.put o.dst v) w):H3 P ops i K a w:=by
 unfold H3;simp only[hi]
 rcases hy with⟨hw,hv⟩|⟨hw,rfl⟩
 ·simp only[hw,if_true,MQ,hv w hI,Dv];exact h
 ·simp only[hw,a1N,if_false];exact h
theorem a7O{Uk:Oper->Bool}{i:Nat}{a:Act}{w:World}{K:Act->World->Prop}(hh:WO Uk P ops i K a w):H3 P ops i K a w:=by
 unfold WO at hh;split at hh
 ·rename_i hi;unfold H3;rw[hi];exact hh
 ·rename_i o hi;split at hh
  ·obtain⟨v,h1,h2⟩:=hh;exact h1.wpOp hi rfl h2
  ·exact hh
theorem Oi.of_same{I:World->Prop}{o:Oper}{v:Value}{a a':Act}(hy:Oi P ops I o v a)(he:execOp a'.eval o=execOp a.eval o)
 (hw:Region.wanted o (yielded ops a'.tmps)=Region.wanted o (yielded ops a.tmps)):Oi P ops I o v a':=by
 unfold Oi at*;rw[he,hw];exact hy
theorem a8O{Uk:Oper->Bool}{I:World->Prop}{j:Nat}{oi oj:Oper}{v:Value}(hj:ops[j]? =some oj)(hap:oi.apart ops oj=true)
 (mC:∀cs b,oi.op≠ .select cs b) (hsj:∀cs b,oj.op≠ .select cs b) (Wf:(∀w,I w)\/Uk oj=true\/∀(a:Act) w n w',I w->(execOp a.eval oj).run P w= .ok n w'->I w'/\∃v,n= .value v)
 {K:Act->World->Prop} {a:Act} {w:World} (hI:I w)
 (hy:Oi P ops I oi v a) (h:WO Uk P ops j K (a.put oi.dst v) w):
 WO Uk P ops j (fun a' w'=>Oi P ops I oi v a'/\I w'/\K (a'.put oi.dst v) w') a w:=by
 obtain⟨h1,h2,h3⟩:=Oper.apart_spec hap
 have keep:∀(a:Act),Oi P ops I oi v a->∀u,Oi P ops I oi v (a.put oj.dst u):=fun a hy u=>
  hy.of_same (execOp_put oi mC a oj.dst u h3) (wanted_put oi a oj.dst u h3)
 unfold WO at*;simp only[hj]at h⊢
 by_cases YD:Uk oj=true
 ·rw[if_pos YD]at h⊢;obtain⟨u,hu,hk⟩:=h;refine⟨u,hu.of_same ?_ ?_,keep a hy u,hI,by rw[<-Act.put_comm a v u h2];exact hk⟩
  ·exact(execOp_put oj hsj a oi.dst v h1).symm
  ·exact(wanted_put oj a oi.dst v h1).symm
 rw[if_neg YD]at h⊢;unfold H3 at*;simp only[hj]at*;rw[wanted_put oj a oi.dst v h1]at h;split
 ·rename_i hw;simp only[hw,if_true]at h;unfold MQ at*;rw[execOp_put oj hsj a oi.dst v h1]at h
  rcases Wf with hI'|Wf|LA
  ·generalize (execOp a.eval oj).run P w=r at*
   cases r with
   |ok n w'=>
    cases n<;>simp only[Dv]at h⊢
    case value u=>exact⟨keep a hy u,hI' _,by rw[<-Act.put_comm a v u h2];exact h⟩
    case skip=>exact⟨keep a hy _,hI' _,by rw[<-Act.put_comm a v undef h2];exact h⟩
    case enter f args=>
     refine Calls.mono h fun e IK ⟨u,he,hk⟩=>⟨u,he,keep a hy u,hI' _,by rw[<-Act.put_comm a v u h2];exact hk⟩
    case round l f tmps assign body=>
     exact fun m=>RoundIn.mono (h m) fun e IK ⟨u,he,hk⟩=>⟨u,he,keep a hy u,hI' _,by rw[<-Act.put_comm a v u h2];exact hk⟩
   |halt x w'=>exact h.elim
  ·exact absurd Wf YD
  ·have hg:=LA a w;generalize (execOp a.eval oj).run P w=r at*
   cases r with
   |ok n w'=>
    obtain⟨g1,u,rfl⟩:=hg n w' hI rfl;simp only[Dv]at h⊢;exact⟨keep a hy u,g1,by rw[<-Act.put_comm a v u h2];exact h⟩
   |halt x w'=>exact h.elim
 ·rename_i hw;simp only[hw]at h;exact⟨keep a hy _,hI,by rw[<-Act.put_comm a v undef h2];exact h⟩
def a9O(Uk:Oper->Bool)(P:Program)(md:Region.Mode)(ops:Array Oper)(Q:Exit->Act->World->Prop):Nat->Array Bool->Act->World->Prop
 | 0,ZO,a,w=>Region.ready md ops ZO=[]/\Q .normal a w
 |fuel+1,ZO,a,w=>
  (Region.ready md ops ZO=[]->Q .normal a w)∧
  ∀i∈Region.ready md ops ZO,WO Uk P ops i (a9O Uk P md ops Q fuel (ZO.setIfInBounds i true)) a w
theorem a0P{Uk:Oper->Bool}(VM:∀o∈ops.toList,∀c,o.op≠ .defer c)(ro:Option Nat)(m:Nat):∀(fuel:Nat) (ZO:Array Bool) (a:Act) (w:World),a9O Uk P md ops Q fuel ZO a w->wpAnyIn (mD ro) m P md ops Q fuel ZO a w:=by
 intro fuel
 induction fuel with
 |zero=>intro ZO a w h;exact h
 |succ fuel ih=>intro ZO a w h;exact⟨h.1,fun i hi=>wpOpIn_mono (fun a w=>ih _ a w) (a4O VM ro m (a7O (h.2 i hi)))⟩
theorem Oi.WO{Uk:Oper->Bool}{I:World->Prop}{i:Nat}{o:Oper}{v:Value}{a:Act}(hi:ops[i]? =some o)(hy:Oi P ops I o v a)
 {K:Act->World->Prop} {w:World} (hI:I w) (h:K (a.put o.dst v) w):WO Uk P ops i K a w:=by
 unfold Vm.WO;simp only[hi];split
 ·refine⟨v,?_,h⟩
  rcases hy with⟨hw,hv⟩|hy
  ·exact .inl ⟨hw,fun w' e=>by subst e;exact hv _ hI⟩
  ·exact .inr hy
 ·exact hy.wpOp hi hI h
theorem a1P{Uk:Oper->Bool}{I:World->Prop}{i:Nat}{oi:Oper}{v:Value}{D:List Nat}(hi:ops[i]? =some oi)(IQ:∀(j:Nat) (o:Oper) cs b,ops[j]? =some o->o.op≠ .select cs b)
 (hD:∀j∈D,∀oj,ops[j]? =some oj->∃e∈oj.after,Region.binds md e=true/\(e.on=i\/e.on∈D))
 :
 ∀(fuel:Nat) (ZO:Array Bool) (a:Act) (w:World),(∀j∈D,ZO.getD j true=false)->I w->
  (∀j oj,ops[j]? =some oj->j≠i->ZO.getD j true=false->j∉D->oi.apart ops oj=true/\((∀w,I w)\/Uk oj=true\/∀(a:Act) w n w',I w->(execOp a.eval oj).run P w= .ok n w'->I w'/\∃v,n= .value v))->
  i∈Region.ready md ops ZO->Oi P ops I oi v a->
  a9O Uk P md ops Q fuel (ZO.setIfInBounds i true) (a.put oi.dst v) w->a9O Uk P md ops Q (fuel+1) ZO a w:=by
 intro fuel
 induction fuel with
 |zero=>
  intro ZO a w _ hI _ hr hy H;refine⟨fun h=>(by rw[h]at hr;cases hr),fun j hj=>?_⟩
  by_cases Wd:j=i
  ·subst Wd;exact hy.WO hi hI H
  ·have:=ready_mono hj Wd;rw[H.1]at this;cases this
 |succ fuel ih=>
  intro ZO a w hDl hI LG hr hy H;refine⟨fun h=>(by rw[h]at hr;cases hr),fun j hj=>?_⟩
  by_cases Wd:j=i
  ·subst Wd;exact hy.WO hi hI H
  ·have h1:=H.2 j (ready_mono hj Wd);obtain⟨f5N,oj,Oe,Zq⟩:=mem_ready.1 hj
   have unl:∀k,ZO.getD k true=false->ZO.getD k false=false:=by
    intro k hk
    rcases Nat.lt_or_ge k ZO.size with h'|h'
    ·simp[h']at hk⊢;exact hk
    ·simp[b0k h']at hk
   have hjD:j∉D:=by
    intro hjD;obtain⟨e,he,hb,hon⟩:=hD j hjD oj Oe;have h1:=Zq e he hb
    rcases hon with hon|hon
    ·rw[hon,unl i (mem_ready.1 hr).1]at h1;cases h1
    ·rw[unl _ (hDl _ hon)]at h1;cases h1
   obtain⟨hap,hkp⟩:=LG j oj Oe Wd f5N hjD;have h2:=a8O Oe hap (fun cs b=>IQ i oi cs b hi) (fun cs b=>IQ j oj cs b Oe) hkp hI hy h1
   have f6N:∀k,k≠j->(ZO.setIfInBounds j true).getD k true=ZO.getD k true:=fun k hk=>getD_set_ne true (Ne.symm hk)
   refine a6O (fun a' w' h3=>ih (ZO.setIfInBounds j true) a' w' ?_ h3.2.1 (fun k ok hk hki hun YQ=>?_) (ready_mono hr (Ne.symm Wd)) h3.1 ?_) h2
   ·intro k hk;rw[f6N k (fun e=>hjD (e▸hk))];exact hDl k hk
   ·refine LG k ok hk hki ?_ YQ
    by_cases hjk:k=j
    ·subst hjk;exact f5N
    ·rw[f6N k hjk]at hun;exact hun
   ·rw[Array.setIfInBounds_comm _ _ Wd];exact h3.2.2
end
/-! ### g5W operations reckon only,which read only-/
def V7.pure:V7->Bool
 | .QH _| .pick .. | .oO _| .bin .. | .beq .. | .peq .. | .PG .. | .un .. | .cvt .. | .ext .. | .len _| .lens _| .fa .. | .Wq .. | .ia .. | .is .. | .ix .. | .cut .. | .VO .. | .build .. | .eqs .. =>true
 | _=>false
def Sem.Adds{α:Type}:Sem α->Prop
 | .pure _=>True
 | .halt _=>True
 | .load _ _ k=>∀v,Adds (k v)
 | .shape _ k=>∀s,Adds (k s)
 | .frozen _ k=>∀b,Adds (k b)
 | .getObj _ k=>∀o,Adds (k o)
 | .program k=>∀p,Adds (k p)
 | .mark _ k=>Adds k
 | .new _ k=>∀n,Adds (k n)
 | .store _ _ _ _=>False
 | .freeze _ _ _=>False
 | .setObj _ _ _=>False
 | .choose _ _=>False
 | .sys _ _=>False
theorem Sem.Adds.RH{α:Type}{x:Sem α}(hx:x.Looks):Sem.Adds x:=by
 induction x with
 |pure a=>trivial
 |halt h=>trivial
 |load m a k ih=>exact fun v=>ih v (hx v)
 |shape r k ih=>exact fun v=>ih v (hx v)
 |frozen a k ih=>exact fun v=>ih v (hx v)
 |getObj r k ih=>exact fun v=>ih v (hx v)
 |program k ih=>exact fun v=>ih v (hx v)
 |mark m k ih=>exact ih hx
 |store m a v k _=>exact hx.elim
 |new o k _=>exact hx.elim
 |freeze a n k _=>exact hx.elim
 |setObj r o k _=>exact hx.elim
 |choose q k _=>exact hx.elim
 |sys c k _=>exact hx.elim
theorem Sem.Adds.bind{α β:Type}{x:Sem α}{f:α->Sem β}(hx:Sem.Adds x)(hf:∀a,Sem.Adds (f a)):Sem.Adds (x >>= f):=by
 show Sem.Adds (x.bind f)
 induction x with
 |pure a=>exact hf a
 |halt h=>exact trivial
 |load m a k ih=>exact fun v=>ih v (hx v)
 |shape r k ih=>exact fun s=>ih s (hx s)
 |frozen a k ih=>exact fun b=>ih b (hx b)
 |getObj r k ih=>exact fun o=>ih o (hx o)
 |program k ih=>exact fun p=>ih p (hx p)
 |mark m k ih=>exact ih hx
 |store m a v k _=>exact hx.elim
 |new o k ih=>exact fun n=>ih n (hx n)
 |freeze a n k _=>exact hx.elim
 |setObj r o k _=>exact hx.elim
 |choose q k _=>exact hx.elim
 |sys c k _=>exact hx.elim
theorem Sem.Adds.ext{α:Type}{x:Sem α}(hx:Sem.Adds x){P:Program}{w w':World}{a:α}(h:x.run P w= .ok a w'):Ext w w':=by
 induction x generalizing w with
 |pure b=>simp only[Sem.run]at h;cases h;exact Ext.refl _
 |halt b=>simp only[Sem.run]at h;cases h
 |load m b k ih=>
  simp only[Sem.run]at h;split at h
  ·exact ih _ (hx _) h
  ·split at h
   ·exact ih _ (hx _) h
   ·cases h
 |shape r k ih=>exact ih _ (hx _) h
 |frozen b k ih=>exact ih _ (hx _) h
 |getObj r k ih=>
  simp only[Sem.run]at h;split at h
  ·cases h
  ·exact ih _ (hx _) h
  ·cases h
 |program k ih=>exact ih _ (hx _) h
 |mark m k ih=>exact ih hx h
 |store m b v k _=>exact hx.elim
 |new o k ih=>
  simp only[Sem.run]at h;exact(Ext.alloc w o).trans (ih _ (hx _) h)
 |freeze b n k _=>exact hx.elim
 |setObj r o k _=>exact hx.elim
 |choose q k _=>exact hx.elim
 |sys c k _=>exact hx.elim
theorem a2P(e:TypeId)(cs:Array Value):Sem.Adds (newRow e cs):=Sem.Adds.bind (fun n=>trivial) (fun _=>trivial)
theorem a3P(t:TypeId):Sem.Adds (zeroValue t):=by
 unfold zeroValue
 refine Sem.Adds.bind (.RH (typeInfo_looks t)) fun i=>?_
 split<;>trivial
theorem a4P(t:TypeId):Sem.Adds (underlying t):= .RH (underlying_looks t)
theorem a5P(t:TypeId):Sem.Adds (sizeOf t):= .RH (sizeOf_looks t)
def a6P(o:Oper):Bool:=match o.op with
 | .alloc _=>true
 | .box .. =>true
 | .buildSlice .. =>true
 | _=>false
theorem a7P{x:Sem Value}(hx:Sem.Adds x){P:Program}{w w':World}{n:Next}(h:(x >>= fun v=>pure (Next.value v)).run P w= .ok n w'):Ext w w'/\∃v,n= .value v:=by
 refine⟨(Sem.Adds.bind (f:=fun v=>(pure (Next.value v):Sem Next)) hx fun v=>(trivial:Sem.Adds (Sem.pure (Next.value v)))).ext h,?_⟩;rw[Sem.run_bind]at h
 cases hx:x.run P w with
 |ok v w1=>rw[hx]at h;simp at h;exact⟨v,h.1.symm⟩
 |halt b w1=>rw[hx]at h;simp[Result.andThen]at h
theorem a8P{P:Program}{o:Oper}(h:a6P o=true)(a:Act)(w:World)(n:Next)(w':World)(hr:(execOp a.eval o).run P w= .ok n w'):Ext w w'/\∃v,n= .value v:=by
 obtain⟨dst,op,ty,pos,af,g⟩:=o
 cases op with
 |alloc t=>
  refine a7P ?_ hr;unfold Instr.alloc
  refine Sem.Adds.bind (a3P t) fun z=>?_
  exact Sem.Adds.bind (a2P _ _) fun _=>trivial
 |box t x=>
  refine a7P ?_ hr;unfold Instr.box
  exact Sem.Adds.bind (a2P _ _) fun _=>trivial
 |buildSlice t len parts=>
  refine a7P ?_ hr;unfold Instr.buildSlice
  repeat' first
   |exact a3P _
   |exact a4P _
   |exact a5P _
   |exact a2P _ _
   |trivial
   |(refine Sem.Adds.bind ?_ fun _=>?_)
   |split
   |dsimp only
 | _=>cases h
section
variable{P:Program}{E:En}{n:Nat}{ψ:Pl}{s:St}{a:Act}{w:World}
variable{d:Nat}{K:St->AV->Prop}{r:V7}
theorem a9P{o:Oper}(hc:comp P o=some r)(hp:r.pure=true)(h:Z7 E n ψ s a w)(hk:ZQ P d s K r):∃v,∀u,(execOp a.eval o).run P u= .ok (.value v) u:=by
 obtain⟨dst,op,ty,pos,af,g⟩:=o;have IJ:=hc;unfold comp at hc;split at hc
 ·rename_i x heq;cases heq;split at hc
  ·simp only[a3y]at hc;subst hc;cases hp
  ·simp only[a3y]at hc;subst hc;exact(a6E (.inl rfl) h hk).any
 ·rename_i x heq;cases heq;split at hc
  ·simp only[a3y]at hc;subst hc;cases hp
  ·simp only[a3y]at hc;subst hc;exact(a6E (.inr rfl) h hk).any
 ·rename_i heq;cases heq;exact(b5P IJ h hk).any
 ·rename_i heq;cases heq;obtain⟨z,hz,rfl⟩:=Vb hc;cases hp
 ·rename_i heq;cases heq;simp only[a3y]at hc;subst hc;cases hp
 ·rename_i t parts heq;cases heq;split at hc
  ·rename_i fs hu;split at hc
   ·rename_i Zq;obtain⟨z,hz,hc⟩:=bind_some hc;obtain⟨l,hl,hc⟩:=bind_some hc;simp only[a2I,a3y]at hc;subst hc;exact(a5D hu hz (fun f hf=>by simpa using(d3i.1 Zq) f hf) hl h hk).any
   ·cases hc
  ·rename_i hu;obtain⟨q,hq,hc⟩:=bind_some hc;obtain⟨z,hz,hc⟩:=bind_some hc;simp only[a2I,a3y]at hc;subst hc;exact(a6D hu hq hz h hk).any
  ·cases hc
 ·rename_i t len parts heq;cases heq;split at hc
  ·obtain⟨sz,Ya,hc⟩:=bind_some hc;split at hc
   ·obtain⟨z,hz,hc⟩:=bind_some hc;simp only[a2I,a3y]at hc;subst hc;cases hp
   ·cases hc
  ·cases hc
 ·rename_i heq;cases heq;obtain⟨dd,Du,hc⟩:=bind_some hc;split at hc
  ·obtain⟨q,hq,rfl⟩:=Vb hc;cases hp
  ·simp only[a2I,a3y]at hc;subst hc;cases hp
 ·rename_i heq;cases heq;obtain⟨q,hq,rfl⟩:=Vb hc;cases hp
 ·rename_i heq;cases heq;exact(b6P IJ h hk).any
 ·rename_i op xt x y yt heq;cases heq;split at hc
  ·simp only[a3y]at hc;subst hc;exact(b9P h hk).any
  ·simp only[a3y]at hc;subst hc;exact(b9P h hk).any
  ·rename_i hu;split at hc
   ·simp only[a3y]at hc;subst hc;exact(b2Q hu rfl h hk).any
   ·simp only[a3y]at hc;subst hc;exact(b2Q hu rfl h hk).any
   ·cases hc
  ·rename_i hu;split at hc
   ·simp only[a3y]at hc;subst hc;exact(b5Q hu rfl h hk).any
   ·simp only[a3y]at hc;subst hc;exact(b5Q hu rfl h hk).any
   ·cases hc
  ·rename_i hu;split at hc
   ·simp only[a3y]at hc;subst hc;exact(b8Q hu rfl h hk).any
   ·simp only[a3y]at hc;subst hc;exact(b8Q hu rfl h hk).any
   ·cases hc
  ·rename_i hu;split at hc
   ·rename_i QK;obtain⟨ks,WQ,hc⟩:=bind_some hc;split at hc
    ·cases hc
    ·rename_i hi
     have hi:XY P xt=some ks.length:=by simpa using hi
     split at hc
     ·simp only[a3y]at hc;subst hc;exact(a9x hu QK WQ rfl h hk hi).any
     ·simp only[a3y]at hc;subst hc;exact(a9x hu QK WQ rfl h hk hi).any
     ·cases hc
   ·cases hc
  ·cases hc
 ·rename_i heq;cases heq;simp only[a3y]at hc;subst hc;exact(b9Q h hk).any
 ·rename_i heq;cases heq;split at hc
  ·rename_i h1 h2;simp only[a3y]at hc;subst hc;exact(b0R h1 h2 h hk).any
  ·cases hc
 ·rename_i heq;cases heq;simp only[a3y]at hc;subst hc;exact(a7F h hk).any
 ·rename_i heq;cases heq;split at hc
  ·obtain⟨q,hq,rfl⟩:=Vb hc;cases hp
  ·cases hc
 ·rename_i heq;cases heq;split at hc
  ·obtain⟨i,hi,hc⟩:=bind_some hc;obtain⟨z,hz,hc⟩:=bind_some hc;split at hc
   ·simp only[a2I,a3y]at hc;subst hc;cases hp
   ·cases hc
  ·cases hc
 ·rename_i heq;cases heq;split at hc
  ·rename_i hu;obtain⟨sz,Ya,rfl⟩:=Vb hc;exact(c9s hu Ya h hk).any
  ·cases hc
 ·rename_i heq;cases heq;split at hc
  ·rename_i hu;obtain⟨f,hf,hc⟩:=bind_some hc;obtain⟨q,hq,hc⟩:=bind_some hc;split at hc
   ·cases hc
   ·rename_i mB;simp only[a2I,a3y]at hc;subst hc;exact(c8r hu hf hq mB h hk).any
  ·cases hc
 ·rename_i heq;cases heq;split at hc
  ·rename_i hu;obtain⟨f,hf,hc⟩:=bind_some hc;obtain⟨q,hq,hc⟩:=bind_some hc;obtain⟨dd,Du,hc⟩:=bind_some hc;simp only[a2I,a3y]at hc;subst hc;exact(c2s hu hf hq Du h hk).any
  ·cases hc
 ·rename_i heq;cases heq;split at hc
  ·rename_i hu;obtain⟨sz,Ya,rfl⟩:=Vb hc;exact(c3s hu Ya h hk).any
  ·cases hc
 ·rename_i heq;cases heq;split at hc
  ·rename_i hu;simp only[a3y]at hc;subst hc;exact(c4s hu h hk).any
  ·rename_i hu;split at hc
   ·rename_i hq;obtain⟨dd,hd⟩:=c3t.1 hq.2.2;simp only[a3y]at hc;subst hc;exact(c5s hu hq.1 hq.2.1 hd h hk).any
   ·cases hc
  ·cases hc
 ·rename_i heq;cases heq;split at hc
  ·obtain⟨q,hq,hc⟩:=bind_some hc;obtain⟨z,hz,hc⟩:=bind_some hc;split at hc
   ·simp only[a2I,a3y]at hc;subst hc;cases hp
   ·cases hc
  ·cases hc
 ·rename_i heq;cases heq;split at hc
  ·obtain⟨q,hq,hc⟩:=bind_some hc;obtain⟨z,hz,hc⟩:=bind_some hc;split at hc
   ·simp only[a2I,a3y]at hc;subst hc;cases hp
   ·cases hc
  ·cases hc
 ·rename_i heq;cases heq;simp only[a3y]at hc;subst hc;cases hp
 ·rename_i heq;cases heq;split at hc
  ·obtain⟨q,hq,rfl⟩:=Vb hc;cases hp
  ·cases hc
 ·rename_i heq;cases heq;simp only[a3y]at hc;subst hc;cases hp
 ·rename_i heq;cases heq;simp only[a3y]at hc;subst hc;cases hp
 ·rename_i heq;cases heq;split at hc
  ·obtain⟨q,hq,rfl⟩:=Vb hc;cases hp
  ·cases hc
 ·rename_i heq;cases heq;split at hc
  ·obtain⟨q,hq,rfl⟩:=Vb hc;cases hp
  ·cases hc
 ·rename_i heq;cases heq;simp only[a3y]at hc;subst hc;exact(b1R h hk).any
 ·rename_i c heq;cases heq;obtain⟨cl,args,ts⟩:=c;simp only at hc;split at hc
  ·split at hc
   ·simp only[a3y]at hc;subst hc;cases hp
   ·cases hc
  ·simp only[a3y]at hc;subst hc;cases hp
  ·split at hc
   ·rename_i x t h1 h2;have e1:=GM h1;have e2:=GM h2;subst e1;subst e2;split at hc
    ·rename_i hu;simp only[a3y]at hc;subst hc;exact(c6r rfl hu h hk).any
    ·rename_i hu;simp only[a3y]at hc;subst hc;exact(c7r rfl hu h hk).any
    ·simp only[a3y]at hc;subst hc;cases hp
    ·cases hc
   ·cases hc
  ·split at hc
   ·split at hc
    ·obtain⟨q,hq,hc⟩:=bind_some hc;obtain⟨q2,Qm,hc⟩:=bind_some hc;split at hc
     ·simp only[a3y]at hc;subst hc;cases hp
     ·cases hc
    ·cases hc
   ·cases hc
  ·simp only[a3y]at hc;subst hc;cases hp
  ·simp only[a3y]at hc;subst hc;cases hp
  ·split at hc
   ·split at hc
    ·obtain⟨q,hq,rfl⟩:=Vb hc;cases hp
    ·cases hc
   ·cases hc
  ·split at hc
   ·split at hc
    ·obtain⟨q,hq,rfl⟩:=Vb hc;cases hp
    ·cases hc
   ·cases hc
  ·split at hc
   ·split at hc
    ·obtain⟨q,hq,hc⟩:=bind_some hc;obtain⟨q2,Qm,hc⟩:=bind_some hc;split at hc
     ·simp only[a3y]at hc;subst hc;cases hp
     ·cases hc
    ·cases hc
   ·cases hc
  ·cases hc
 ·cases hc
end
def mK(P:Program)(o:Oper):Bool:=match comp P o with
 |some r=>r.pure
 |none=>false
def a9F(o:Oper):Bool:=match o.op with
 | .load .. =>true
 | .lookup .. =>true
 | _=>false
def Uk(P:Program)(o:Oper):Bool:=mK P o||a9F o
def a1G(ops:Array Oper)(i:Nat):List Nat:=
 (a7I ops.size).foldl (fun D j=>match ops[j]? with
  |some o=>if o.after.any (fun e=>Region.binds .any e&&(e.on==i||D.contains e.on))then j::D else D
  |none=>D) []
def GX(P:Program)(ops:Array Oper)(ZO:Array Bool)(i:Nat):Bool:=match ops[i]? with
 |none=>false
 |some oi=>Uk P oi&&(a1G ops i).all (fun j=> !ZO.getD j true&&match ops[j]? with
  |some o=>o.after.any fun e=>Region.binds .any e&&(e.on==i||(a1G ops i).contains e.on)
  |none=>true)&&
  (a7I ops.size).all fun j=>j==i||ZO.getD j true||(a1G ops i).contains j||match ops[j]? with
   |some oj=>oi.apart ops oj&&(mK P oi||Uk P oj||a6P oj)
   |none=>true
def a2G:List VT->Option VT
 | []=>none
 | [t]=>some t
 |t::r=>(a2G r).map (.alt t)
def force{α:Type}(n:Nat)(f:Nat->α):α:=match n with
 | 0=>f 0
 |m+1=>f (m+1)
theorem a3G{α:Type}(n:Nat)(f:Nat->α):force n f=f n:=by cases n<;>rfl
def GV:List Bool->Nat
 | []=>0
 |b::r=>2*GV r+(if b then 1 else 0)
def a5G:Nat->Nat->List Bool
 | 0,_=>[]
 |k+1,m=>(m%2==1)::a5G k (m/2)
theorem a6G:∀l:List Bool,a5G l.length (GV l)=l
 | []=>rfl
 |b::r=>by
  have h1:(2*GV r+(if b then 1 else 0))/2=GV r:=by split<;>omega
  have h2:((2*GV r+(if b then 1 else 0))%2==1)=b:=by
   cases b
   ·have:(2*GV r+(if false then 1 else 0))%2=0:=by simp
    rw[this];rfl
   ·have:(2*GV r+(if true then 1 else 0))%2=1:=by simp
    rw[this];rfl
  show((2*GV r+(if b then 1 else 0))%2==1)::a5G r.length ((2*GV r+(if b then 1 else 0))/2)=b::r
  rw[h1,h2,a6G r]
def canon{α:Type}(l:Array Bool)(f:Array Bool->α):α:=force l.size fun sz=>force (GV l.toList) fun m=>f (a5G sz m).toArray
theorem a7G{α:Type}(l:Array Bool)(f:Array Bool->α):canon l f=f l:=by
 unfold canon;rw[a3G,a3G];have:a5G l.size (GV l.toList)=l.toList:=a6G l.toList;rw[this]
def QG(P:Program)(n:Nat)(ops:Array Oper):Nat->Array Bool->Option VT
 | 0,ZO=>if(Region.ready .any ops ZO).isEmpty then some .done else none
 |fuel+1,ZO=>
  let one:=fun i=>do
   let o<-ops[i]?
   let vo<-LH P n ops o
   let t<-canon (ZO.setIfInBounds i true) fun l=>QG P n ops fuel l
   pure (VT.op vo t)
  if(Region.ready .any ops ZO).isEmpty then some .done
  else match (Region.ready .any ops ZO).find? (GX P ops ZO)with
   |some i=>one i
   |none=>((Region.ready .any ops ZO).mapM one).bind a2G
theorem a8G(P:Program)(n:Nat)(ops:Array Oper)(fuel:Nat)(ZO:Array Bool):QG P n ops (fuel+1) ZO=
 (let one:=fun i=>do
  let o<-ops[i]?
  let vo<-LH P n ops o
  let t<-QG P n ops fuel (ZO.setIfInBounds i true)
  pure (VT.op vo t)
 if(Region.ready .any ops ZO).isEmpty then some .done
 else match (Region.ready .any ops ZO).find? (GX P ops ZO)with
  |some i=>one i
  |none=>((Region.ready .any ops ZO).mapM one).bind a2G):=by
 rw[QG];simp only[a7G]
section
variable{P:Program}{E:En}{n:Nat}{s:St}{a:Act}{w:World}{ops:Array Oper}
theorem a9G{o:Oper}{r:V7}{d:Nat}{K:St->AV->Prop}{ψ:Pl}(hc:comp P o=some r)(hr:a9F o=true)(hd:d<1000)(h:Z7 E n ψ s a w)(hk:ZQ P d s K r):
 ∃v,∀u,Ext w u->(execOp a.eval o).run P u= .ok (.value v) u:=by
 obtain⟨dst,op,ty,pos,af,g⟩:=o
 cases op with
 |load t x=>exact b8D hc hd h hk
 |lookup t m k ok=>
  simp only[comp]at hc;split at hc
  ·rename_i hu;obtain⟨sk,UA,hc⟩:=bind_some hc;obtain⟨z,hz,hc⟩:=bind_some hc;split at hc
   ·rename_i QF;simp only[a2I,a3y]at hc;subst hc;obtain⟨v,h1,_⟩:=e9v (dst:=dst) (ty:=ty) (pos:=pos) (af:=af) (g:=g) hu UA hz QF hd h hk;exact⟨v,h1⟩
   ·cases hc
  ·cases hc
 | _=>cases hr
theorem a0H{o:Oper}{vo:Yd}(hc:LH P n ops o=some vo)(hn:n<=999){K:St->Prop}(hs:T8 E n s a w)
 (hk:VA P vo s K) (YD:Uk P o=true):∃v,Oi P ops (if mK P o then fun _=>True else Ext w) o v a/\∃s',T8 E n s' (a.put o.dst v) w/\K s':=by
 obtain⟨ψ,h⟩:=hs;unfold LH at hc;obtain⟨g,hg,hc⟩:=bind_some hc;obtain⟨r,hr,hc⟩:=bind_some hc;split at hc
 ·rename_i GU;simp only[a2I,a3y]at hc;subst hc
  have hd:∀i,o.dst=some i->i<n:=by
   intro i hi;rw[hi]at GU;simpa[GR]using GU
  have DC:o.dst.getD 999<1000:=by
   cases ho:o.dst with
   |none=>simp
   |some i=>exact a6R (hd i ho) (a0N hn (by decide))
  have skip:∀s,Z7 E n ψ s a w->Region.wanted o (yielded ops a.tmps)=false->K (s.put o.dst .un)->∃v,Oi P ops (if mK P o then fun _=>True else Ext w) o v a/\∃s',T8 E n s' (a.put o.dst v) w/\K s':=
   fun s h hw hk=>⟨undef, .inr ⟨hw,rfl⟩,_,⟨ψ,h.put hd .un⟩,hk⟩
  have run:∀s,Z7 E n ψ s a w->Region.wanted o (yielded ops a.tmps)=true->ZQ P (o.dst.getD 999) s (fun s' x=>K (s'.put o.dst x)) r->
   ∃v,Oi P ops (if mK P o then fun _=>True else Ext w) o v a/\∃s',T8 E n s' (a.put o.dst v) w/\K s':=by
   intro s h hw mJ
   have Qo:=b8K hr DC h mJ (fun a' w'=>∃s',T8 E n s' a' w'/\K s') (fun _ _ _=>False)
    (fun s' av ZF v w' hk hs hv=>⟨_,⟨ZF,hs.put hd hv⟩,hk⟩)
   by_cases hp:mK P o=true
   ·have Dy:r.pure=true:=by unfold mK at hp;rw[hr]at hp;exact hp
    obtain⟨v,hv⟩:=a9P hr Dy h mJ;refine⟨v, .inl ⟨hw,fun u _=>hv u⟩,?_⟩;unfold MQ at Qo;rw[hv w]at Qo;exact Qo
   ·have Oh:a9F o=true:=by
     unfold Uk at YD;simp only[hp,Bool.false_or]at YD;exact YD
    rw[if_neg hp];obtain⟨v,hv⟩:=a9G hr Oh DC h mJ;refine⟨v, .inl ⟨hw,fun u hu=>hv u hu⟩,?_⟩;unfold MQ at Qo;rw[hv w (Ext.refl w)]at Qo;exact Qo
  unfold c9Q at hg
  cases QK:o.guard with
  |none=>
   rw[QK]at hg;simp only[a3y]at hg;subst hg;simp only[VA]at hk;exact run s h (by simp[Region.wanted,QK]) hk
  |some jb=>
   obtain⟨j,b⟩:=jb;rw[QK]at hg;obtain⟨t,ht,rfl⟩:=Vb hg;simp only[VA]at hk;have hy:=e8d h ht;split at hk
   ·rename_i c hc;have CG:=hy.1 c hc
    by_cases hcb:c=b
    ·subst hcb;exact run _ (h.lit (by assumption)) (by simp[Region.wanted,QK,CG]) (hk.1 rfl)
    ·have mI:c= !b:=by cases c<;>cases b<;>simp_all
     subst mI;exact skip _ (h.lit (by assumption)) (by simp[Region.wanted,QK,CG]) (hk.2 rfl)
   ·rename_i hc;have CG:=hy.2 hc;exact skip s h (by simp[Region.wanted,QK,CG]) hk
   ·exact hk.elim
 ·cases hc
theorem a1H{P:Program}{s:St}{K:St->Prop}:∀{ts:List VT} {t:VT},a2G ts=some t->Tk P t s K->∀u∈ts,Tk P u s K
 | [],t,h,_,_,_=>by cases h
 | [x],t,h,hk,u,hu=>by
  simp only[a2G,a3y]at h;subst h;rw[a1B.1 hu];exact hk
 |x::y::r,t,h,hk,u,hu=>by
  simp only[a2G]at h;obtain⟨t',IT,rfl⟩:=Vb h;simp only[Tk]at hk
  rcases a5E.1 hu with rfl|hu
  ·exact hk.1
  ·exact a1H (ts:=y::r) IT hk.2 u hu
theorem a2H{α β:Type}{f:α->Option β}:∀{l:List α} {r:List β},l.mapM f=some r->∀x∈l,∃y∈r,f x=some y:=by
 intro l
 induction l with
 |nil=>intro r _ x hx;cases hx
 |cons x l ih=>
  intro r h y hy;rw[a0Q]at h;obtain⟨z,hz,h⟩:=bind_some h;obtain⟨q,hq,h⟩:=bind_some h;simp only[a2I,a3y]at h;subst h
  rcases a5E.1 hy with rfl|hy
  ·exact⟨z,a4E,hz⟩
  ·obtain⟨u,hu,e⟩:=ih hq y hy;exact⟨u,a9C _ hu,e⟩
theorem a3H{o:Oper}{vo:Yd}{i:Nat}(hi:ops[i]? =some o)(hc:LH P n ops o=some vo)(hn:n<=999){K:St->Prop}{K':Act->World->Prop}(hs:T8 E n s a w)
 (hk:VA P vo s K) (hK:∀s' a' w',T8 E n s' a' w'->K s'->K' a' w'):WO (Uk P) P ops i K' a w:=by
 unfold WO;rw[hi];simp only
 by_cases YD:Uk P o=true
 ·rw[if_pos YD];obtain⟨v,hy,s',QS,SS⟩:=a0H hc hn hs hk YD;refine⟨v,?_,hK s' _ _ QS SS⟩
  rcases hy with⟨hw,hv⟩|hy
  ·refine .inl ⟨hw,fun u e=>hv u ?_⟩;split
   ·trivial
   ·rw[e];exact Ext.refl _
  ·exact .inr hy
 ·rw[if_neg YD];unfold H3;rw[hi];exact e9d hc hn hs hk hK
theorem a4H(hn:n<=999)(IQ:Region.noSelect ops=true){N:St->Prop}{Q:Exit->Act->World->Prop}(hQ:∀s a w,T8 E n s a w->N s->Q .normal a w):
 ∀(fuel:Nat) (ZO:Array Bool) (t:VT) (s:St) (a:Act) (w:World),QG P n ops fuel ZO=some t->T8 E n s a w->Tk P t s N->
  a9O (Uk P) P .any ops Q fuel ZO a w:=by
 intro fuel
 induction fuel with
 |zero=>
  intro ZO t s a w ht hs hk;simp only[QG]at ht;split at ht
  ·rename_i he;cases ht;exact⟨c7u.1 he,hQ _ _ _ hs hk⟩
  ·cases ht
 |succ fuel ih=>
  intro ZO t s a w ht hs hk
  have one:∀i u,(do let o<-ops[i]?;let vo<-LH P n ops o;let t<-QG P n ops fuel (ZO.setIfInBounds i true);pure (VT.op vo t))=some u->
   ∃o vo t',ops[i]? =some o/\LH P n ops o=some vo/\QG P n ops fuel (ZO.setIfInBounds i true)=some t'/\u= .op vo t':=by
   intro i u hu;obtain⟨o,h1,hu⟩:=bind_some hu;obtain⟨vo,h2,hu⟩:=bind_some hu;obtain⟨t',h3,hu⟩:=bind_some hu;simp only[a2I,a3y]at hu;exact⟨o,vo,t',h1,h2,h3,hu.symm⟩
  simp only[a8G]at ht;split at ht
  ·rename_i he;cases ht;have he:=c7u.1 he;exact⟨fun _=>hQ _ _ _ hs hk,by rw[he];simp⟩
  ·rename_i ZV;split at ht
   ·rename_i i Og;obtain⟨o,vo,t',h1,h2,h3,rfl⟩:=one i t ht;have T7:=List.find?_some Og;have mH:i∈Region.ready .any ops ZO:=List.mem_of_find?_eq_some Og;unfold GX at T7;rw[h1]at T7;simp only[a3C,a8C,List.mem_range]at T7;obtain⟨⟨YD,hD⟩,LG⟩:=T7;simp only[Tk]at hk;obtain⟨v,hy,s',QS,SS⟩:=a0H h2 hn hs hk YD
    refine a1P (D:=a1G ops i) h1 (Region.noSelect_spec IQ) (fun j hj oj Oe=>?_) fuel ZO a w
     (fun j hj=>by simpa using(hD j hj).1) (by split<;>first|trivial|exact Ext.refl _) (fun j oj Oe Wd hun YQ=>?_) mH hy (ih _ t' s' _ _ h3 QS SS)
    ·have:=(hD j hj).2;rw[Oe]at this;obtain⟨e,he,hb⟩:=Array.any_eq_true'.1 this;simp only[a3C,b6w,beq_iff_eq,a6M]at hb;exact⟨e,he,hb.1,hb.2⟩
    ·have:=LG j (c8l.1 Oe).1;rw[Oe]at this;simp only[b6w,beq_iff_eq,Wd,hun,a1N,a6M,YQ,false_or,a3C]at this;refine⟨this.1,?_⟩
     rcases this.2 with(hp|hs)|hg
     ·left;rw[if_pos hp];exact fun _=>trivial
     ·exact .inr (.inl hs)
     ·refine .inr (.inr fun a w1 n w2 hI hr=>?_);obtain⟨q1,q2⟩:=a8P hg a w1 n w2 hr;refine⟨?_,q2⟩;split at hI
      ·rename_i hp;rw[if_pos hp];trivial
      ·rename_i hp;rw[if_neg hp];exact hI.trans q1
   ·rename_i Og;obtain⟨ts,LD,hal⟩:=b6v.1 ht;refine⟨fun h=>absurd (c7u.2 h) ZV,fun i hi=>?_⟩;obtain⟨u,hu,hui⟩:=a2H LD i hi;obtain⟨o,vo,t',h1,h2,h3,rfl⟩:=one i u hui;have SS:=a1H hal hk _ hu;simp only[Tk]at SS;exact a3H h1 h2 hn hs SS (fun s' a' w' QS g3v=>ih _ t' s' a' w' h3 QS g3v)
end
def c9A(ops:Array Oper):Bool:=ops.toList.all fun o=>match o.op with
 | .defer _=>false
 | _=>true
theorem c0B{ops:Array Oper}(h:c9A ops=true):∀o∈ops.toList,∀c,o.op≠ .defer c:=by
 intro o ho c hc;have:=a8C.1 h o ho;rw[hc]at this;cases this
theorem c1B{P:Program}{n:Nat}{ops:Array Oper}:∀{l:List Oper} {vl:List Yd},l.mapM (LH P n ops)=some vl->∀o∈l,∀c,o.op≠ .defer c:=by
 intro l vl h o ho c hc;obtain⟨vo,_,h⟩:=a2H h o ho;unfold LH at h;obtain⟨g,_,h⟩:=bind_some h;obtain⟨r,hr,_⟩:=bind_some h;obtain⟨dst,op,ty,pos,af,gd⟩:=o;simp only at hc;subst hc;unfold comp at hr;cases hr
def c2B(P:Program)(n:Nat)(ops:Array Oper)(draw:Bool):Option Z9:=
 if draw then
  if P.follows .mixedOrders&&Region.noSelect ops&&c9A ops then(QG P n ops ops.size (c6w ops.size false)).map .any else none
 else(ops.toList.mapM (LH P n ops)).map .Dl
theorem Io{P:Program}{n:Nat}{ops:Array Oper}{draw:Bool}{c:Z9}(h:c2B P n ops draw=some c):
 (∃t,c= .any t/\draw=true/\P.follows .mixedOrders=true/\Region.noSelect ops=true/\QG P n ops ops.size (c6w ops.size false)=some t/\∀o∈ops.toList,∀c,o.op≠ .defer c)∨
 (∃l,c= .Dl l/\draw=false/\ops.toList.mapM (LH P n ops)=some l):=by
 unfold c2B at h
 cases draw with
 |true=>
  rw[if_pos rfl]at h;split at h
  ·rename_i hm;simp only[a3C]at hm;obtain⟨t,ht,rfl⟩:=Vb h;exact .inl ⟨t,rfl,rfl,hm.1.1,hm.1.2,ht,c0B hm.2⟩
  ·cases h
 |false=>
  rw[if_neg (by simp)]at h;obtain⟨l,hl,rfl⟩:=Vb h;exact .inr ⟨l,rfl,rfl,hl⟩
def cR:Code->Option Nat
 | .goto l=>some l
 | .seq a b=>(cR a).or (cR b)
 | .cond _ a b=>(cR a).or (cR b)
 | .block _ c=>cR c
 | .loop c=>cR c
 | _=>none
def Hw(P:Program)(n:Nat):Code->Option Z9
 | .skip=>some .skip
 | .region _ ops draw=>c2B P n ops draw
 | .seq a b=>do pure (.seq (<-Hw P n a) (<-Hw P n b))
 | .cond x t e=>do pure (.cond x (<-Hw P n t) (<-Hw P n e))
 | .block id c=>do pure (.block id (<-Hw P n c))
 | .loop c=>do pure (.loop (<-Hw P n c))
 | .exit id=>some (.exit id)
 | .ret=>some .ret
 | .label _=>some .skip
 | .goto l=>some (.goto l)
 | _=>none
def c6B(P:Program)(n:Nat)(c:Code)(v:Z9):Option Z9:=match cR c with
 |none=>some (.scope v)
 |some l=>match findLabel c l with
  |some rest=>(Hw P n rest).map fun r=> .WC v l r
  |none=>none
def Z9.QN:Z9->Bool
 | .seq x y=>x.QN&&y.QN
 | .cond _ x y=>x.QN&&y.QN
 | .block _ x=>x.QN
 | .loop x=>x.QN
 | .scope _=>false
 | .WC .. =>false
 | .QB .. =>false
 | _=>true
def JK(n:Nat)(g:Operand)(ps:List Nat)(x y:Z9):Option Z9:=if x.QN&&y.QN&&ps.all (· <n)then some (.QB g ps x y)else none
def UO(P:Program)(n:Nat):Code->Option Z9
 | .skip=>some .skip
 | .region _ ops draw=>c2B P n ops draw
 | .seq a b=>do pure (.seq (<-UO P n a) (<-UO P n b))
 | .cond x t e=>do pure (.cond x (<-UO P n t) (<-UO P n e))
 | .block id c=>do pure (.block id (<-UO P n c))
 | .loop c=>do pure (.loop (<-UO P n c))
 | .exit id=>some (.exit id)
 | .ret=>some .ret
 | .label _=>some .skip
 | .goto l=>some (.goto l)
 | .scope c=>do c6B P n c (<-UO P n c)
 | .rangeFunc g ps x y=>do JK n g ps.toList (<-UO P n x) (<-UO P n y)
 | .refuse _=>none
theorem c8B{n:Nat}{g:Operand}{ps:List Nat}{x y r:Z9}(h:JK n g ps x y=some r):r= .QB g ps x y/\x.QN=true/\y.QN=true/\ps.all (· <n)=true:=by
 unfold JK at h;split at h
 ·rename_i R9;simp only[a3C]at R9;cases h;exact⟨rfl,R9.1.1,R9.1.2,R9.2⟩
 ·cases h
theorem Hv{n:Nat}{g:Operand}{ps:List Nat}{x y r:Z9}(h:JK n g ps x y=some r)(h1:∀g ps x y,r≠ .QB g ps x y):False:=h1 _ _ _ _ (c8B h).1
theorem c0C{P:Program}{n:Nat}{c:Code}{v r:Z9}(h:c6B P n c v=some r):r= .scope v\/∃l q,r= .WC v l q:=by
 unfold c6B at h;split at h
 ·simp only[a3y]at h;exact .inl h.symm
 ·split at h
  ·obtain⟨q,_,rfl⟩:=Vb h;exact .inr ⟨_,q,rfl⟩
  ·cases h
theorem Hu{P:Program}{n:Nat}{c:Code}{v r:Z9}(h:c6B P n c v=some r)(h1:∀x,r≠ .scope x)(h2:∀x l q,r≠ .WC x l q):False:=by
 rcases c0C h with h|⟨_,_,h⟩
 ·exact h1 _ h
 ·exact h2 _ _ _ h
theorem c2C{P:Program}{n:Nat}:∀(c:Code) (v:Z9),Hw P n c=some v->UO P n c=some v:=by
 intro c
 induction c with
 |seq a b CZ ihb=>
  intro v h;simp only[Hw]at h;obtain⟨x,hx,h⟩:=bind_some h;obtain⟨y,hy,h⟩:=bind_some h;simp only[UO,CZ x hx,ihb y hy];exact h
 |cond x a b CZ ihb=>
  intro v h;simp only[Hw]at h;obtain⟨x,hx,h⟩:=bind_some h;obtain⟨y,hy,h⟩:=bind_some h;simp only[UO,CZ x hx,ihb y hy];exact h
 |block i a CZ=>
  intro v h;simp only[Hw]at h;obtain⟨x,hx,h⟩:=bind_some h;simp only[UO,CZ x hx];exact h
 |loop a CZ=>
  intro v h;simp only[Hw]at h;obtain⟨x,hx,h⟩:=bind_some h;simp only[UO,CZ x hx];exact h
 |scope a CZ=>intro v h;cases h
 |rangeFunc=>intro v h;cases h
 |refuse=>intro v h;cases h
 | _=>intro v h;exact h
structure Yr where
 n:St->Prop
 x:Nat->St->Prop
 r:St->Prop
 g:Nat->St->Prop
def Ma(E:En)(n:Nat)(O:Yr):Exit->Act->World->Prop
 | .normal,a,w=>∃s,T8 E n s a w/\O.n s
 | .exit id,a,w=>∃s,T8 E n s a w/\O.x id s
 | .ret,a,w=>∃s,T8 E n s a w/\O.r s
 | .goto l,a,w=>∃s,T8 E n s a w/\O.g l s
 | .panic _,_,_=>False
 | .outgrown,_,_=>False
def VC(P:Program)(n:Nat)(c:Z9)(s:St)(O:Yr):Prop:=
 ∀code,UO P n code=some c->∀(ro:Option Nat) (m:Nat),(ro=none\/c.QN=true)->∀E a w,T8 E n s a w->code.wpIn (mD ro) m P (Ma E n O) a w
section
variable{P:Program}{n:Nat}{s:St}{O:Yr}
theorem Ma.mono{E:En}{O':Yr}(h1:∀s,O.n s->O'.n s)(h2:∀i s,O.x i s->O'.x i s)(h3:∀s,O.r s->O'.r s)(h4:∀i s,O.g i s->O'.g i s):
 ∀e a w,Ma E n O e a w->Ma E n O' e a w:=by
 intro e a w h
 cases e with
 |normal=>obtain⟨s,hs,hk⟩:=h;exact⟨s,hs,h1 _ hk⟩
 |exit id=>obtain⟨s,hs,hk⟩:=h;exact⟨s,hs,h2 _ _ hk⟩
 |ret=>obtain⟨s,hs,hk⟩:=h;exact⟨s,hs,h3 _ hk⟩
 |goto l=>obtain⟨s,hs,hk⟩:=h;exact⟨s,hs,h4 _ _ hk⟩
 |panic=>exact h
 |outgrown=>exact h
theorem VC.mono{c:Z9}{O':Yr}(h:VC P n c s O)(h1:∀s,O.n s->O'.n s)(h2:∀i s,O.x i s->O'.x i s)(h3:∀s,O.r s->O'.r s)(h4:∀i s,O.g i s->O'.g i s):VC P n c s O':=
 fun code hc ro m T1 E a w hs=>Code.wpIn_mono (Ma.mono h1 h2 h3 h4) (h code hc ro m T1 E a w hs)
theorem c3C(h:O.n s):VC P n .skip s O:=by
 intro code hc ro m T1 E a w hs
 cases code<;>simp only[UO]at hc<;>(first|cases hc|skip)
 ·exact wpIn_skip ⟨s,hs,h⟩
 all_goals first
  |exact wpIn_label ⟨s,hs,h⟩
  |(obtain⟨_,_,hc⟩:=bind_some hc;first|cases hc|exact(Hu hc (fun _ h=>by cases h) (fun _ _ _ h=>by cases h)).elim|(obtain⟨_,_,hc⟩:=bind_some hc;first|cases hc|exact(Hv hc (fun _ _ _ _ h=>by cases h)).elim|(obtain⟨_,_,hc⟩:=bind_some hc;cases hc)))
  |(rcases Io hc with⟨_,hc,_⟩|⟨_,hc,_⟩<;>cases hc)
theorem c4C{id:Nat}(h:O.x id s):VC P n (.exit id) s O:=by
 intro code hc ro m T1 E a w hs
 cases code<;>simp only[UO]at hc<;>(first|cases hc|skip)
 all_goals first
  |exact wpIn_exit ⟨s,hs,h⟩
  |(obtain⟨_,_,hc⟩:=bind_some hc;first|cases hc|exact(Hu hc (fun _ h=>by cases h) (fun _ _ _ h=>by cases h)).elim|(obtain⟨_,_,hc⟩:=bind_some hc;first|cases hc|exact(Hv hc (fun _ _ _ _ h=>by cases h)).elim|(obtain⟨_,_,hc⟩:=bind_some hc;cases hc)))
  |(rcases Io hc with⟨_,hc,_⟩|⟨_,hc,_⟩<;>cases hc)
theorem c5C(h:O.r s):VC P n .ret s O:=by
 intro code hc ro m T1 E a w hs
 cases code<;>simp only[UO]at hc<;>(first|cases hc|skip)
 all_goals first
  |exact wpIn_ret ⟨s,hs,h⟩
  |(obtain⟨_,_,hc⟩:=bind_some hc;first|cases hc|exact(Hu hc (fun _ h=>by cases h) (fun _ _ _ h=>by cases h)).elim|(obtain⟨_,_,hc⟩:=bind_some hc;first|cases hc|exact(Hv hc (fun _ _ _ _ h=>by cases h)).elim|(obtain⟨_,_,hc⟩:=bind_some hc;cases hc)))
  |(rcases Io hc with⟨_,hc,_⟩|⟨_,hc,_⟩<;>cases hc)
theorem c6C{l:Nat}(h:O.g l s):VC P n (.goto l) s O:=by
 intro code hc ro m T1 E a w hs
 cases code<;>simp only[UO]at hc<;>(first|cases hc|skip)
 all_goals first
  |exact wpIn_goto ⟨s,hs,h⟩
  |(obtain⟨_,_,hc⟩:=bind_some hc;first|cases hc|exact(Hu hc (fun _ h=>by cases h) (fun _ _ _ h=>by cases h)).elim|(obtain⟨_,_,hc⟩:=bind_some hc;first|cases hc|exact(Hv hc (fun _ _ _ _ h=>by cases h)).elim|(obtain⟨_,_,hc⟩:=bind_some hc;cases hc)))
  |(rcases Io hc with⟨_,hc,_⟩|⟨_,hc,_⟩<;>cases hc)
theorem c7C{x y:Z9}{code:Code}(hc:UO P n code=some (.seq x y)):∃a b,code= .seq a b/\UO P n a=some x/\UO P n b=some y:=by
 cases code<;>simp only[UO]at hc<;>(first|cases hc|skip)
 all_goals first
  |(obtain⟨x',hx,hc⟩:=bind_some hc;obtain⟨y',hy,hc⟩:=bind_some hc;simp only[a2I,a3y,Z9.seq.injEq]at hc;obtain⟨rfl,rfl⟩:=hc;exact⟨_,_,rfl,hx,hy⟩)
  |(obtain⟨_,_,hc⟩:=bind_some hc;first|cases hc|exact(Hu hc (fun _ h=>by cases h) (fun _ _ _ h=>by cases h)).elim|(obtain⟨_,_,hc⟩:=bind_some hc;first|cases hc|exact(Hv hc (fun _ _ _ _ h=>by cases h)).elim|(obtain⟨_,_,hc⟩:=bind_some hc;cases hc)))
  |(rcases Io hc with⟨_,hc,_⟩|⟨_,hc,_⟩<;>cases hc)
theorem c8C{x y:Z9}(h:VC P n x s {O with n:=fun s'=>VC P n y s' O}):VC P n (.seq x y) s O:=by
 intro code hc ro m T1 E a w hs;obtain⟨c1,c2,rfl,h1,h2⟩:=c7C hc
 have QP:ro=none\/x.QN=true:=T1.imp id fun h=>(by simp only[Z9.QN,a3C]at h;exact h.1)
 have KC:ro=none\/y.QN=true:=T1.imp id fun h=>(by simp only[Z9.QN,a3C]at h;exact h.2)
 refine wpIn_seq (Code.wpIn_mono ?_ (h c1 h1 ro m QP E a w hs));intro e a' w' hp
 cases e with
 |normal=>obtain⟨s',QS,hk⟩:=hp;exact hk c2 h2 ro m KC E a' w' QS
 | _=>exact hp
theorem c9C{ops:List Yd}(hn:n<=999)(h:Ui P ops s O.n):VC P n (.Dl ops) s O:=by
 intro code hc ro m T1 E a w hs
 cases code<;>simp only[UO]at hc<;>(first|cases hc|skip)
 ·rename_i id os draw
  rcases Io hc with⟨_,e,_⟩|⟨l,e,hd,hl⟩
  ·cases e
  ·cases e;subst hd;exact wpIn_region_list (e1e ro m _ (c1B hl) _ _ (e2e hn (Q:=Ma E n O) (fun s a w hs hk=>⟨s,hs,hk⟩) os.toList ops s a w hl hs h))
 all_goals (obtain⟨_,_,hc⟩:=bind_some hc;first|cases hc|exact(Hu hc (fun _ h=>by cases h) (fun _ _ _ h=>by cases h)).elim|(obtain⟨_,_,hc⟩:=bind_some hc;first|cases hc|exact(Hv hc (fun _ _ _ _ h=>by cases h)).elim|(obtain⟨_,_,hc⟩:=bind_some hc;cases hc)))
theorem c0D{t:VT}(hn:n<=999)(h:Tk P t s O.n):VC P n (.any t) s O:=by
 intro code hc ro m T1 E a w hs
 cases code<;>simp only[UO]at hc<;>(first|cases hc|skip)
 ·rename_i id os draw
  rcases Io hc with⟨t',e,hd,hm,IQ,hvt,VM⟩|⟨_,e,_⟩
  ·cases e;subst hd;obtain⟨ψ,XG⟩:=hs;refine wpIn_region_any hm (a0P VM ro m _ _ _ _ (a4H hn IQ (Q:=Ma E n O) (fun s a w hs hk=>⟨s,hs,hk⟩) _ _ t s a _ hvt ⟨ψ,?_⟩ h));exact XG.ext (Ext.drew w)
  ·cases e
 all_goals (obtain⟨_,_,hc⟩:=bind_some hc;first|cases hc|exact(Hu hc (fun _ h=>by cases h) (fun _ _ _ h=>by cases h)).elim|(obtain⟨_,_,hc⟩:=bind_some hc;first|cases hc|exact(Hv hc (fun _ _ _ _ h=>by cases h)).elim|(obtain⟨_,_,hc⟩:=bind_some hc;cases hc)))
theorem c1D{x:Operand}{t e:Z9}{b:Bool}(hx:s.ev x= .iv (.v (.bool b)))(ht:b=true->VC P n t s O)(he:b=false->VC P n e s O):VC P n (.cond x t e) s O:=by
 intro code hc ro m T1 E a w hs
 cases code<;>simp only[UO]at hc<;>(first|cases hc|skip)
 case cond x' t' e'=>
  obtain⟨t1,h1,hc⟩:=bind_some hc;obtain⟨e1,h2,hc⟩:=bind_some hc;simp only[a2I,a3y,Z9.cond.injEq]at hc;obtain⟨rfl,rfl,rfl⟩:=hc;obtain⟨ψ,h⟩:=hs;have hv:=h.ev x';rw[hx]at hv;have hv:=Vp hv;cases b
  ·exact wpIn_cond_false hv (he rfl e' h2 ro m (T1.imp id fun h=>(by simp only[Z9.QN,a3C]at h;exact h.2)) E a w ⟨ψ,h⟩)
  ·exact wpIn_cond_true hv (ht rfl t' h1 ro m (T1.imp id fun h=>(by simp only[Z9.QN,a3C]at h;exact h.1)) E a w ⟨ψ,h⟩)
 all_goals first
  |(obtain⟨_,_,hc⟩:=bind_some hc;first|cases hc|exact(Hu hc (fun _ h=>by cases h) (fun _ _ _ h=>by cases h)).elim|(obtain⟨_,_,hc⟩:=bind_some hc;first|cases hc|exact(Hv hc (fun _ _ _ _ h=>by cases h)).elim|(obtain⟨_,_,hc⟩:=bind_some hc;cases hc)))
  |(rcases Io hc with⟨_,hc,_⟩|⟨_,hc,_⟩<;>cases hc)
theorem c2D{id:Nat}{c:Z9}(h:VC P n c s {O with x:=fun j s'=>if j=id then O.n s' else O.x j s'}):VC P n (.block id c) s O:=by
 intro code hc ro m T1 E a w hs
 cases code<;>simp only[UO]at hc<;>(first|cases hc|skip)
 case block XK c'=>
  obtain⟨c1,h1,hc⟩:=bind_some hc;simp only[a2I,a3y,Z9.block.injEq]at hc;obtain⟨rfl,rfl⟩:=hc;refine wpIn_block (Code.wpIn_mono ?_ (h c' h1 ro m T1 E a w hs));intro e a' w' hp
  cases e with
  |exit j=>
   obtain⟨s',QS,hk⟩:=hp
   change (if j=XK then O.n s' else O.x j s')at hk
   by_cases hj:j=XK
   ·rw[if_pos hj]at hk;simp only[Exit.inBlock,if_pos hj];exact⟨s',QS,hk⟩
   ·rw[if_neg hj]at hk;simp only[Exit.inBlock,if_neg hj];exact⟨s',QS,hk⟩
  | _=>exact hp
 all_goals first
  |(obtain⟨_,_,hc⟩:=bind_some hc;first|cases hc|exact(Hu hc (fun _ h=>by cases h) (fun _ _ _ h=>by cases h)).elim|(obtain⟨_,_,hc⟩:=bind_some hc;first|cases hc|exact(Hv hc (fun _ _ _ _ h=>by cases h)).elim|(obtain⟨_,_,hc⟩:=bind_some hc;cases hc)))
  |(rcases Io hc with⟨_,hc,_⟩|⟨_,hc,_⟩<;>cases hc)
theorem c3D{c:Z9}(h:VC P n c s {O with g:=fun _ _=>False}):VC P n (.scope c) s O:=by
 intro code hc ro m T1 E a w hs
 cases code<;>simp only[UO]at hc<;>(first|cases hc|skip)
 case scope c'=>
  obtain⟨c1,h1,hc⟩:=bind_some hc
  rcases c0C hc with hc|⟨_,_,hc⟩
  rotate_left
  ·cases hc
  simp only[Z9.scope.injEq]at hc;subst hc;obtain rfl:ro=none:=T1.resolve_right (by simp[Z9.QN]);refine wpIn_wide.2 (wp_scope_straight ((wpIn_wide (n:=m)).1 (Code.wpIn_mono ?_ (h c' h1 none m (.inl rfl) E a w hs))));intro e a' w' hp
  cases e with
  |goto l=>obtain⟨_,_,hk⟩:=hp;exact hk
  | _=>exact hp
 all_goals first
  |(obtain⟨_,_,hc⟩:=bind_some hc;first|cases hc|exact(Hu hc (fun _ h=>by cases h) (fun _ _ _ h=>by cases h)).elim|(obtain⟨_,_,hc⟩:=bind_some hc;first|cases hc|exact(Hv hc (fun _ _ _ _ h=>by cases h)).elim|(obtain⟨_,_,hc⟩:=bind_some hc;cases hc)))
  |(rcases Io hc with⟨_,hc,_⟩|⟨_,hc,_⟩<;>cases hc)
theorem c4D{c r:Z9}{l:Nat}(J:St->Prop)(h:VC P n c s {O with g:=fun l' s'=>l'=l/\J s'})(h2:∀s',J s'->VC P n r s' {O with g:=fun _ _=>False}):VC P n (.WC c l r) s O:=by
 intro code hc ro m T1 E a w hs
 cases code<;>simp only[UO]at hc<;>(first|cases hc|skip)
 case scope c'=>
  obtain⟨c1,h1,hc⟩:=bind_some hc;unfold c6B at hc;split at hc
  ·cases hc
  ·rename_i l' hl';split at hc
   ·rename_i rest hf;obtain⟨q,hq,hc⟩:=Vb hc;simp only[Z9.WC.injEq]at hc;obtain⟨rfl,rfl,rfl⟩:=hc;obtain rfl:ro=none:=T1.resolve_right (by simp[Z9.QN]);refine wpIn_wide.2 (wp_scope_jumps l' (fun a w=>∃s',T8 E n s' a w/\J s') (fun _ _=>0) hf ((wpIn_wide (n:=m)).1 (Code.wpIn_mono ?_ (h c' h1 none m (.inl rfl) E a w hs))) ?_)
    ·intro e a' w' hp
     cases e with
     |goto l2=>obtain⟨s',QS,rfl,hk⟩:=hp;exact⟨rfl,s',QS,hk⟩
     | _=>exact hp
    ·rintro a' w' ⟨s',QS,hk⟩;refine(wpIn_wide (n:=m)).1 (Code.wpIn_mono ?_ (h2 s' hk rest (c2C _ _ hq) none m (.inl rfl) E a' w' QS));intro e a2 w2 hp
     cases e with
     |goto l2=>obtain⟨_,_,hk⟩:=hp;exact hk.elim
     | _=>exact hp
   ·cases hc
 all_goals first
  |(obtain⟨_,_,hc⟩:=bind_some hc;first|cases hc|(obtain⟨_,_,hc⟩:=bind_some hc;first|cases hc|exact(Hv hc (fun _ _ _ _ h=>by cases h)).elim|(obtain⟨_,_,hc⟩:=bind_some hc;cases hc)))
  |(rcases Io hc with⟨_,hc,_⟩|⟨_,hc,_⟩<;>cases hc)
theorem c5D{p:Nat->Prop}(h:∃k,p k):∃k,p k/\∀m,p m->k<=m:=by
 obtain⟨k,hk⟩:=h
 induction k using Nat.strongRecOn with
 |ind k ih=>
  by_cases he:∃m,m<k/\p m
  ·obtain⟨m,hm,hp⟩:=he;exact ih m hm hp
  ·exact⟨k,hk,fun m hp=>d6x fun hl=>he ⟨m,hl,hp⟩⟩
theorem c6D{c:Z9}(I:Nat->St->Prop)(h0:HX s fun s'=>∃k,I k s')
 (round:∀k s',I k s'->VC P n c s' {O with n:=fun s2=>∃m s3,m<k/\Le s2 s3/\I m s3}):VC P n (.loop c) s O:=by
 intro code hc ro m T1 E a w hs
 cases code<;>simp only[UO]at hc<;>(first|cases hc|skip)
 case loop c'=>
  obtain⟨c1,h1,hc⟩:=bind_some hc;simp only[a2I,a3y,Z9.loop.injEq]at hc;subst hc;obtain⟨s0,⟨k0,hI0⟩,Qr⟩:=h0 E n a w hs
  classical
  let Inv:Act->World->Prop:=fun a' w'=>∃k s',T8 E n s' a' w'/\I k s'
  let μ:Act->World->Nat:=fun a' w'=>if h:∃k,∃s',T8 E n s' a' w'/\I k s' then b7G (c5D h)else 0
  refine wpIn_loop Inv μ ⟨k0,s0,Qr,hI0⟩ ?_;intro a' w' hI;have hex:∃k,∃s',T8 E n s' a' w'/\I k s':=hI;obtain⟨⟨s',QS,hIk⟩,_⟩:=b2K (c5D hex);have hμ:μ a' w'=b7G (c5D hex):=dif_pos hex;refine Code.wpIn_mono ?_ (round (b7G (c5D hex)) s' hIk c' h1 ro m T1 E a' w' QS);intro e a2 w2 hp
  cases e with
  |normal=>
   obtain⟨s2,Tt,m,s3,hm,hl,hI3⟩:=hp;have hs3:=hl E n a2 w2 Tt;have cQ:∃k,∃s',T8 E n s' a2 w2/\I k s':=⟨m,s3,hs3,hI3⟩;refine⟨⟨m,s3,hs3,hI3⟩,?_⟩;rw[hμ];have:μ a2 w2=b7G (c5D cQ):=dif_pos cQ;rw[this];exact Nat.lt_of_le_of_lt ((b2K (c5D cQ)).2 _ ⟨s3,hs3,hI3⟩) hm
  | _=>exact hp
 all_goals first
  |(obtain⟨_,_,hc⟩:=bind_some hc;first|cases hc|exact(Hu hc (fun _ h=>by cases h) (fun _ _ _ h=>by cases h)).elim|(obtain⟨_,_,hc⟩:=bind_some hc;first|cases hc|exact(Hv hc (fun _ _ _ _ h=>by cases h)).elim|(obtain⟨_,_,hc⟩:=bind_some hc;cases hc)))
  |(rcases Io hc with⟨_,hc,_⟩|⟨_,hc,_⟩<;>cases hc)
end
def SR:Nat->List AV->List (Nat×AV)
 | _,[]=>[]
 |i,x::r=>(i,x)::SR (i+1) r
theorem d7e:∀(xs:List AV) (i t:Nat),look (SR i xs) t=if i<=t then xs[t-i]? else none:=by
 intro xs
 induction xs with
 |nil=>intro i t;simp[SR,look]
 |cons x xs ih=>
  intro i t;simp only[SR,look,ih]
  by_cases h:i=t
  ·subst h;simp
  ·rw[if_neg h]
   by_cases h2:i<=t
   ·rw[if_pos (by omega),if_pos h2,show t-i=(t-(i+1))+1 from by omega,a5J]
   ·rw[if_neg (by omega),if_neg h2]
inductive Sp where
 |tmp (t:Nat)
 |cell (x:Nat) (n:Option Nat)
 deriving Inhabited,DecidableEq
def g5J(x:Nat)(t:TypeId):Oper:=⟨some x, .load t (.tmp x),t,"", #[],none⟩
def d8e(P:Program):ResultVar->Option Sp
 | .tmp t=>some (.tmp t)
 | .cell x t=>match comp P (g5J x t)with
  |some (.ld (.tmp y) k)=>if y=x then some (.cell x k)else none
  | _=>none
def VN(s:St):Sp->Option AV
 | .tmp t=>some (s.get t)
 | .cell x none=>match s.get x with
  | .ptr id off=>match look s.hp id with
   |some (.box cs)=>cs[off]?
   | _=>none
  | _=>none
 | .cell x (some n)=>match s.get x with
  | .ptr id off=>match look s.hp id with
   |some (.box cs)=>if off+n<=cs.length then some (.agg ((cs.drop off).take n))else none
   | _=>none
  | _=>none
def Jc:List AV->AV
 | [x]=>x
 |l=> .Zp l
def d9e(tmps:Array Value):ResultVar->Sem Value
 | .tmp t=>pure (tmps.getD t undef)
 | .cell a t=>do loadVar t (<-asAddr (tmps.getD a undef))
def IV.flat:IV->Bool
 | .v _=>true
 | .Z6 _ xs=>xs.isEmpty
 | _=>false
def Z3.flat:Z3->Bool
 | .ptr _ _=>true
 | .val x=>x.flat
def AV.Tx:AV->Bool
 | .iv x=>x.flat
 | .fn _ a b=>a.all Z3.flat&&b.all Z3.flat
 | .agg _=>false
 | .Zp _=>false
 | _=>true
def AV.PO:AV->Bool
 | .agg cs=>cs.all AV.Tx
 |x=>x.Tx
def AV.flat:AV->Bool
 | .Zp vs=>vs.all AV.PO
 |x=>x.PO
def Ob.flat:Ob->Prop
 | .box cs=>cs.all AV.Tx=true
 | .list _ xs=>∀x∈xs,∀y∈x,y.flat=true
 | .map _ g=>∀k c,g k=some c->∀x∈c,x.flat=true
 | .WE _ g _ _=>∀k c,g k=some c->∀x∈c,x.flat=true
 | .YN _ _ xs=>∀x∈xs,∀y∈x,y.flat=true
 | .YA _ _ g _=>∀k xs,g k=some xs->∀x∈xs,∀y∈x,y.flat=true
 | .ZI _ xs _=>∀z∈xs,∀x∈z,∀y∈x,y.flat=true
 | .iter .. =>False
 | .gh .. =>False
theorem Yq.flat{A A':Nat->Prop}{w:World}{x:IV}{v:Value}(h:Yq A w x v)(hf:x.flat=true):Yq A' w x v:=by
 cases h with
 |v x h1=>exact .v _ h1
 |V5 sz=>exact .V5 sz
 |Z6 sz xs b off cap a vs ha hs WT hc hr=>
  simp only[IV.flat,c7u]at hf;subst hf;exact .Z6 sz [] b off cap a vs ha hs WT (fun i j c hc=>by simp[at2]at hc) (fun i j c hc=>by simp[at2]at hc)
 |pt=>cases hf
 |mp=>cases hf
 |Mp=>cases hf
theorem ZL.Tx{A A':Nat->Prop}{ψ:Pl}{H:Hp}{w:World}{x:AV}{v:Value}(h:ZL A ψ H w x v)(hf:x.Tx=true):ZL A' ψ H w x v:=by
 cases h with
 |iv x v h=>exact .iv x v (h.flat hf)
 |nil sz=>exact .nil sz
 |UR id sz o n ho he hb=>exact .UR id sz o n ho he hb
 |sl id sz lo len b k cap a o n ho he hx hb ha Vc hk hm=>exact .sl id sz lo len b k cap a o n ho he hx hb ha Vc hk hm
 |ptr id off b k o ho hb=>exact .ptr id off b k o ho hb
 |ep id sz i off b k o n ho he hi hb=>exact .ep id sz i off b k o n ho he hi hb
 |mpr id b k o ho hb=>exact .mpr id b k o ho hb
 |fn f first caps vf vc g1 g2 h1 h2=>
  simp only[AV.Tx,a3C,a8C]at hf
  have hc:∀{c:Z3} {v:Value},c.flat=true->W9 A ψ H w c v->W9 A' ψ H w c v:=by
   intro c v hf h
   cases h with
   |ptr id off b k o ho hb=>exact .ptr id off b k o ho hb
   |val x v h=>exact .val x v (h.flat hf)
  exact .fn f first caps vf vc g1 g2 (fun i c h=>hc (hf.1 c (a6y h)) (h1 i c h)) (fun i c h=>hc (hf.2 c (a6y h)) (h2 i c h))
 |agg=>cases hf
 |Zp=>cases hf
 |un=>exact .un
 |junk v=>exact .junk v
theorem ZL.PO{A A':Nat->Prop}{ψ:Pl}{H:Hp}{w:World}{x:AV}{v:Value}(h:ZL A ψ H w x v)(hf:x.PO=true):ZL A' ψ H w x v:=by
 cases x with
 |agg cs=>
  cases h with
  |agg cs vs hl h=>exact .agg cs vs hl fun i c hc=>(h i c hc).Tx (a8C.1 hf c (a6y hc))
 | _=>exact h.Tx hf
theorem ZL.flat{A A':Nat->Prop}{ψ:Pl}{H:Hp}{w:World}{x:AV}{v:Value}(h:ZL A ψ H w x v)(hf:x.flat=true):ZL A' ψ H w x v:=by
 cases x with
 |Zp cs=>
  cases h with
  |Zp cs vs hl h=>exact .Zp cs vs hl fun i c hc=>(h i c hc).PO (a8C.1 hf c (a6y hc))
 | _=>exact h.PO hf
theorem Xw.flat{A A':Nat->Prop}{w:World}{sk:Sk}{g:List Value->Option (List IV)}{es:Array MapEntry}(h:Xw A w sk g es)(hf:∀k c,g k=some c->∀x∈c,x.flat=true):Xw A' w sk g es:=by
 obtain⟨m1,m2,m3,m4⟩:=h;refine⟨m1,m2,m3,fun k c hg=>?_⟩;obtain⟨e,he,h5,h6,h7⟩:=m4 k c hg;exact⟨e,he,h5,h6,fun i x hx=>(h7 i x hx).flat (hf k c hg x (a6y hx))⟩
theorem SZ.flat{A A':Nat->Prop}{w:World}{sz:Nat}{xs:List (List IV)}{p:Option (Nat×(Nat×Nat))}{v:Value}(h:SZ A w sz xs p v)(hf:∀x∈xs,∀y∈x,y.flat=true):SZ A' w sz xs p v:=by
 obtain⟨h0,h|⟨b,k,cap,a,h1,h2,h3,h4,h5,h6,c,e,g1,g2,g3,g4⟩⟩:=h
 ·exact⟨h0, .inl h⟩
 ·refine⟨h0, .inr ⟨b,k,cap,a,h1,h2,h3,h4,h5,h6,c,e,g1,g2,g3,fun i j x hx=>(g4 i j x hx).flat ?_⟩⟩;obtain⟨r,QP,KC⟩:=IE hx;exact hf r (a6y QP) x (a6y KC)
theorem WU.flat{A A':Nat->Prop}{ψ:Pl}{H:Hp}{w:World}{id:Nat}{o:Ob}(h:WU A ψ H w id o)(hf:o.flat):WU A' ψ H w id o:=by
 cases o with
 |box cs=>
  obtain⟨b,c,e,h1,h2,h3,h4⟩:=h;exact⟨b,c,e,h1,h2,h3,fun i x hx=>(h4 i x hx).Tx (a8C.1 hf x (a6y hx))⟩
 |list sz xs=>
  obtain⟨h0,h⟩:=h;refine⟨h0,?_⟩
  rcases h with h|⟨b,k,c,e,h1,h2,h3,SX,h4⟩
  ·exact .inl h
  ·refine .inr ⟨b,k,c,e,h1,h2,h3,SX,fun i j x hx=>(h4 i j x hx).flat ?_⟩;obtain⟨r,QP,KC⟩:=IE hx;exact hf r (a6y QP) x (a6y KC)
 |map sk g=>obtain⟨b,es,clock,h1,h2,h3,m⟩:=h;exact⟨b,es,clock,h1,h2,h3,m.flat hf⟩
 |WE sk g n kk=>obtain⟨b,es,clock,h1,h2,h3,m,h4⟩:=h;exact⟨b,es,clock,h1,h2,h3,m.flat hf,h4⟩
 |YN org sz xs=>
  obtain⟨h0,h⟩:=h;refine⟨h0,?_⟩
  rcases h with h|⟨b,k,c,e,h1,h2,h3,SX,h4⟩
  ·exact .inl h
  ·refine .inr ⟨b,k,c,e,h1,h2,h3,SX,fun i j x hx=>(h4 i j x hx).flat ?_⟩;obtain⟨r,QP,KC⟩:=IE hx;exact hf r (a6y QP) x (a6y KC)
 |YA sk sz g hole=>
  obtain⟨b,es,clock,pl,h1,h2,h3,h4,h5,h6,h7,h8,h9,UI,Tl⟩:=h;refine⟨b,es,clock,pl,h1,h2,h3,h4,h5,h6,h7,h8,fun k xs hg=>?_,UI,Tl⟩;obtain⟨e,g1,g2,g3⟩:=h9 k xs hg;exact⟨e,g1,g2,g3.flat (hf k xs hg)⟩
 |ZI sz xs hole=>
  obtain⟨h0,b,k,c,e,pl,h1,h2,h3,h4,h5,h6,h7⟩:=h;exact⟨h0,b,k,c,e,pl,h1,h2,h3,h4,fun i x g1 g2=>(h5 i x g1 g2).flat (hf x (a6y g1)),h6,h7⟩
 |iter sk g left last=>exact hf.elim
 |gh Z vs cs=>exact hf.elim
theorem ZL.hp{A:Nat->Prop}{ψ:Pl}{H H':Hp}{w:World}{x:AV}{v:Value}(h:ZL A ψ H w x v)(hH:∀id,look H' id=look H id):ZL A ψ H' w x v:=
 h.mono (fun _ _ h=>h) (fun _ _ _=>rfl) fun id o ho=>⟨⟨o,by rw[hH];exact ho,o.le_refl⟩,rfl⟩
theorem WU.hp{A:Nat->Prop}{ψ:Pl}{H H':Hp}{w:World}{id:Nat}{o:Ob}(h:WU A ψ H w id o)(hH:∀id,look H' id=look H id):WU A ψ H' w id o:=
 h.mono (fun _ _ h=>h) (fun _ _ _=>rfl) (fun id o ho=>⟨⟨o,by rw[hH];exact ho,o.le_refl⟩,rfl⟩) ⟨rfl,fun _ h=>h⟩ fun _ _=>rfl
theorem d0f{ψ:Pl}{H H':Hp}(hH:∀id,look H' id=look H id)(b:Nat):ZD ψ H' b↔ZD ψ H b:=by
 constructor
 ·rintro⟨id,o,h1,h2⟩;exact⟨id,o,by rw[<-hH];exact h1,h2⟩
 ·rintro⟨id,o,h1,h2⟩;exact⟨id,o,by rw[hH];exact h1,h2⟩
section
variable{P:Program}{E:En}{n:Nat}{ψ:Pl}{s:St}{a:Act}{w:World}
theorem d1f{rv:ResultVar}{vr:Sp}{av:AV}(hc:d8e P rv=some vr)(hv:VN s vr=some av)(h:Z7 E n ψ s a w):
 ∃v,(d9e a.tmps rv).run P w= .ok v w/\ZL (Im E ψ s.hp) ψ s.hp w av v:=by
 cases rv with
 |tmp t=>
  simp only[d8e,a3y]at hc;subst hc;simp only[VN,a3y]at hv;subst hv;exact⟨_,rfl,h.frame t⟩
 |cell x t=>
  simp only[d8e]at hc;split at hc
  ·rename_i y k f0S;split at hc
   ·rename_i hy;subst hy;simp only[a3y]at hc;subst hc
    have g6J:∃id off,s.get y= .ptr id off/\ZQ P y s (fun s' z=>s'=s/\z=av) (.ld (.tmp y) k):=by
     cases k with
     |none=>
      simp only[VN]at hv;split at hv
      ·rename_i id off hg;refine⟨id,off,hg,?_⟩;simp only[ZQ,St.ev,hg];split at hv
       ·rename_i cs ho;simp only[ho];rw[hv];simp
       ·cases hv
      ·cases hv
     |some k=>
      simp only[VN]at hv;split at hv
      ·rename_i id off hg;refine⟨id,off,hg,?_⟩;simp only[ZQ,St.ev,hg];split at hv
       ·rename_i cs ho;simp only[ho];split at hv
        ·rename_i hl;simp only[a3y]at hv;exact⟨hl,by simp,hv⟩
        ·cases hv
       ·cases hv
      ·cases hv
    obtain⟨id,off,hg,YD⟩:=g6J;obtain⟨v,av',h1,⟨_,rfl⟩,h3⟩:=e8o (K:=fun s' z=>s'=s/\z=av) f0S h YD (by intro _ _ _ _ _ _ _ hh;simp only[St.ev,hg]at hh;cases hh)
    refine⟨v,?_,h3⟩;have hf:=h.frame y;rw[hg]at hf;obtain⟨b,q,o,_,_,e⟩:=CS hf;have e:a.eval (.tmp y)= .pointer (some ⟨b,off,none⟩):=e;have h1:=h1 w (Ext.refl w);rw[e]at h1;have e':a.tmps.getD y undef= .pointer (some ⟨b,off,none⟩):=e;simp only[d9e,e',asAddr];exact h1
   ·cases hc
  ·cases hc
theorem d2f(h:Z7 E n ψ s a w):∀(rvs:List ResultVar) (rs:List Sp) (l:List AV),rvs.mapM (d8e P)=some rs->rs.mapM (VN s)=some l->
 ∃vs:List Value,(rvs.mapM (d9e a.tmps)).run P w= .ok vs w/\vs.length=l.length/\∀i x,l[i]? =some x->ZL (Im E ψ s.hp) ψ s.hp w x (vs.getD i undef):=by
 intro rvs
 induction rvs with
 |nil=>
  intro rs l hc hv;simp only[d1Q,a2I,a3y]at hc;subst hc;simp only[d1Q,a2I,a3y]at hv;subst hv;exact⟨[],by simp,rfl,by simp⟩
 |cons rv rvs ih=>
  intro rs l hc hv;rw[a0Q]at hc;obtain⟨r,hr,hc⟩:=bind_some hc;obtain⟨rs',hrs,hc⟩:=bind_some hc;simp only[a2I,a3y]at hc;subst hc;rw[a0Q]at hv;obtain⟨x,hx,hv⟩:=bind_some hv;obtain⟨l',hl,hv⟩:=bind_some hv;simp only[a2I,a3y]at hv;subst hv;obtain⟨v,h1,h2⟩:=d1f hr hx h
  obtain⟨vs,h3,h4,h5⟩:=ih rs' l' hrs hl;refine⟨v::vs,by rw[a0Q];simp only[Sem.run_bind,h1,Result.andThen_ok,h3,Sem.run_pure],by simp[h4],fun i y hi=>?_⟩
  cases i with
  |zero=>simp at hi;subst hi;exact h2
  |succ i=>simp only[a5J]at hi;simpa using h5 i y hi
def oneOf:List Value->Value
 | [v]=>v
 |vs=> .tuple vs.toArray
theorem d3f{fn:Func}{vs:List Value}{w:World}{tmps:Array Value}(h:(fn.results.toList.mapM (d9e tmps)).run P w= .ok vs w):
 (results fn tmps).run P w= .ok (oneOf vs) w:=by
 have e:results fn tmps=(do let vs<-fn.results.mapM (d9e tmps);pure (if h:vs.size=1 then vs[0]else .tuple vs)):=by
  unfold results
  congr 1
 rw[e,Array.mapM_eq_mapM_toList];simp only[Sem.run_bind,Sem.run_map,h,Result.andThen_ok,Sem.run_pure]
 match vs with
 | []=>rfl
 | [v]=>rfl
 |v::u::r=>rfl
end
def Iz(A:Nat->Prop)(w:World)(b:Nat):Prop:=A b/\¬P0 w b
theorem d7U{w:World}{b o:Nat}{v:Value}(h:w.cell? ⟨b,o,none⟩=some v):¬P0 w b:=fun⟨q,hq,hc⟩=>by cases q<;>first|(simp[World.cell?,hq]at h;done)|(cases hc;done)
theorem d8U{w:World}{b:Nat}{es:Array MapEntry}{c:Nat}(h:w.heap[b]? =some (.map es c)):¬P0 w b:=fun⟨q,hq,hc⟩=>by rw[h]at hq;cases hq;cases hc
theorem Yq.Ut{A:Nat->Prop}{w:World}{x:IV}{v:Value}(h:Yq A w x v):Yq (Iz A w) w x v:=by
 induction h with
 |v x h1=>exact .v x h1
 |V5 sz=>exact .V5 sz
 |Z6 sz xs b off cap a vs ha hs WT hc hr ih=>
  exact .Z6 sz xs b off cap a vs ha hs WT (fun i j c h=>by obtain⟨h1,h2⟩:=hc i j c h;exact⟨⟨h1,d7U h2⟩,h2⟩) ih
 |pt cs b off vs hc hr ih=>
  exact .pt cs b off vs (fun i c h=>by obtain⟨h1,h2⟩:=hc i c h;exact⟨⟨h1,d7U h2⟩,h2⟩) ih
 |mp sk g b clock es vs kU hh UA XZ YQ YD hg hr ih=>
  exact .mp sk g b clock es vs ⟨kU,d8U hh⟩ hh UA XZ YQ YD hg ih
 |Mp sk g h=>exact .Mp sk g h
theorem W9.Ut{A:Nat->Prop}{ψ:Pl}{H:Hp}{w:World}{c:Z3}{v:Value}(h:W9 A ψ H w c v):W9 (Iz A w) ψ H w c v:=by
 cases h with
 |ptr id off b k o ho hb=>exact .ptr id off b k o ho hb
 |val x v h1=>exact .val x v h1.Ut
theorem ZL.Ut{A:Nat->Prop}{ψ:Pl}{H:Hp}{w:World}{x:AV}{v:Value}(h:ZL A ψ H w x v):ZL (Iz A w) ψ H w x v:=by
 induction h with
 |iv x v h=>exact .iv x v h.Ut
 |nil sz=>exact .nil sz
 |UR id sz o n ho he hb=>exact .UR id sz o n ho he hb
 |sl id sz lo len b k cap a o n ho he hx hb ha Vc hk hm=>exact .sl id sz lo len b k cap a o n ho he hx hb ha Vc hk hm
 |ptr id off b k o ho hb=>exact .ptr id off b k o ho hb
 |ep id sz i off b k o n ho he hi hb=>exact .ep id sz i off b k o n ho he hi hb
 |mpr id b k o ho hb=>exact .mpr id b k o ho hb
 |fn f first caps vf vc hf hc h1 h2=>exact .fn f first caps vf vc hf hc (fun i c h=>(h1 i c h).Ut) (fun i c h=>(h2 i c h).Ut)
 |agg cs vs hl _ ih=>exact .agg cs vs hl ih
 |Zp cs vs hl _ ih=>exact .Zp cs vs hl ih
 |un=>exact .un
 |junk v=>exact .junk v
theorem cP.Ut{A:Nat->Prop}{w:World}{sz:Nat}{xs:List (List IV)}{b:Nat}{k:Nat×Nat}(h:cP A w sz xs b k):cP (Iz A w) w sz xs b k:=by
 obtain⟨c,e,h1,h2,h3,h4⟩:=h;exact⟨c,e,h1,h2,h3,fun i j x hx=>(h4 i j x hx).Ut⟩
theorem SZ.Ut{A:Nat->Prop}{w:World}{sz:Nat}{xs:List (List IV)}{p:Option (Nat×(Nat×Nat))}{v:Value}(h:SZ A w sz xs p v):SZ (Iz A w) w sz xs p v:=by
 obtain⟨h0,h⟩:=h;refine⟨h0,?_⟩
 rcases h with h|⟨b,k,cap,a,h1,h2,h3,h4,h5,h6,h7⟩
 ·exact .inl h
 ·exact .inr ⟨b,k,cap,a,h1,h2,h3,h4,h5,h6,h7.Ut⟩
theorem Xw.Ut{A:Nat->Prop}{w:World}{sk:Sk}{g:List Value->Option (List IV)}{es:Array MapEntry}(h:Xw A w sk g es):Xw (Iz A w) w sk g es:=by
 obtain⟨m1,m2,m3,m4⟩:=h;refine⟨m1,m2,m3,fun k c hg=>?_⟩;obtain⟨e,he,h5,h6,h7⟩:=m4 k c hg;exact⟨e,he,h5,h6,fun i x hx=>(h7 i x hx).Ut⟩
theorem WU.Ut{A:Nat->Prop}{ψ:Pl}{H:Hp}{w:World}{id:Nat}{o:Ob}(h:WU A ψ H w id o):WU (Iz A w) ψ H w id o:=by
 cases o with
 |box cs=>obtain⟨b,c,e,h1,h2,h3,h4⟩:=h;exact⟨b,c,e,h1,h2,h3,fun i x hx=>(h4 i x hx).Ut⟩
 |list sz xs=>
  obtain⟨h0,h⟩:=h;refine⟨h0,?_⟩
  rcases h with h|⟨b,k,c,e,h1,h2,h3,SX,h4⟩
  ·exact .inl h
  ·exact .inr ⟨b,k,c,e,h1,h2,h3,SX,fun i j x hx=>(h4 i j x hx).Ut⟩
 |map sk g=>obtain⟨b,es,clock,h1,h2,h3,m⟩:=h;exact⟨b,es,clock,h1,h2,h3,m.Ut⟩
 |WE sk g n kk=>obtain⟨b,es,clock,h1,h2,h3,m,h4⟩:=h;exact⟨b,es,clock,h1,h2,h3,m.Ut,h4⟩
 |YN org sz xs=>
  obtain⟨h0,h⟩:=h;refine⟨h0,?_⟩
  rcases h with h|⟨b,k,c,e,h1,h2,h3,SX,h4⟩
  ·exact .inl h
  ·exact .inr ⟨b,k,c,e,h1,h2,h3,SX,fun i j x hx=>(h4 i j x hx).Ut⟩
 |YA sk sz g hole=>
  obtain⟨b,es,clock,pl,h1,h2,h3,h4,h5,h6,h7,h8,h9,UI,Tl⟩:=h;refine⟨b,es,clock,pl,h1,h2,h3,h4,h5,h6,h7,h8,fun k xs hg=>?_,UI,Tl⟩;obtain⟨e,g1,g2,g3⟩:=h9 k xs hg;exact⟨e,g1,g2,g3.Ut⟩
 |ZI sz xs hole=>
  obtain⟨h0,b,k,c,e,pl,h1,h2,h3,h4,h5,h6,h7⟩:=h;exact⟨h0,b,k,c,e,pl,h1,h2,h3,h4,fun i x g1 g2=>(h5 i x g1 g2).Ut,h6,h7⟩
 |iter sk g left last=>
  obtain⟨b,m,since,stamps,Yx,h1,h2,h3⟩:=h;refine⟨b,m,since,stamps,Yx,h1,h2,?_⟩
  rcases h3 with h3|⟨bm,es,g1,g2,g3,g4,g5,g6,g7⟩
  ·exact .inl h3
  ·exact .inr ⟨bm,es,g1,⟨g2,d8U g3⟩,g3,g4,g5,g6.Ut,g7⟩
 |gh Z vs cs=>
  obtain⟨h1,h2,h3,h4⟩:=h;exact⟨h1,h2.Ut (fun b _ ha hd=>⟨ha,hd⟩) (fun _ h=>h) (fun _ _ _ _=>rfl) (fun _ _=>rfl),h3,fun i x hx=>(h4 i x hx).Ut⟩
section
variable{P:Program}{E:En}{n:Nat}{ψ:Pl}{s:St}{a:Act}{w:World}
theorem Z7.ctl(h:Z7 E n ψ s a w){D:Nat}(Du:P0 w D)(hH:¬ZD ψ s.hp D){o':Obj}{E2:En}(eA:E2.A=E.A)(eI:E2.ids=E.ids)(eψ:E2.ψ=E.ψ)(eP:E2.ND=E.ND)(eS:E2.w.heap.size=E.w.heap.size)
 (eO:E2.w.os=E.w.os/\E2.w.tape=E.w.tape/\E2.w.output=E.w.output/\E2.w.drawn<=E.w.drawn) (hold:∀b,b<E.w.heap.size->¬E.mp b->(w.putObj D o').heap[b]? =E2.w.heap[b]?)
 {ds:List Deferred} (qO:lO E.w.heap.size (Im E ψ s.hp) (w.putObj D o') ds):Z7 E2 n ψ s {a with defers:=ds} (w.putObj D o'):=by
 have ZV:∀b,b≠D->(w.putObj D o').heap[b]? =w.heap[b]? :=fun b hb=>World.putObj_heap_other hb
 have R6:∀b,E2.fresh b↔E.fresh b:=fun b=>by simp[En.fresh,eP,eS]
 have hmp:∀b,E2.mp b↔E.mp b:=fun b=>by simp[En.mp,eI,eψ,eP]
 have Ck:∀b,Im E2 ψ s.hp b↔Im E ψ s.hp b:=fun b=>by simp[Im,eA,R6]
 have hI:∀b,b<w.heap.size->Iz (Im E ψ s.hp) w b->Im E2 ψ s.hp b:=fun b _ h=>(Ck b).2 h.1
 have hw:∀b,b<w.heap.size->Iz (Im E ψ s.hp) w b->(w.putObj D o').heap[b]? =w.heap[b]? :=fun b _ h=>ZV b fun e=>h.2 (e▸Du)
 refine {size:=h.size,defers:=?_,frame:=fun t=>(h.frame t).Ut.mono hI hw (U8.refl _ _),YC:=fun id o ho=>?_,inj:=h.inj,own:=fun id o b ho hb=>?_,YU:=h.YU.ext (by simp),par:=fun id Vi=>?_,old:=fun b hb hm=>?_,grow:=by rw[eS];simpa using h.grow,same:=⟨h.same.1.trans eO.1.symm,h.same.2.1.trans eO.2.1.symm,h.same.2.2.1.trans eO.2.2.1.symm,a0N eO.2.2.2 h.same.2.2.2⟩}
 ·rw[eS];exact⟨qO.1,fun d hd=>by obtain⟨D',g1,g2,g3,g4⟩:=qO.2 d hd;exact⟨D',g1,g2,(Ck D').2 g3,g4⟩⟩
 ·refine(h.YC id o ho).Ut.mono hI hw (U8.refl _ _) ⟨rfl,fun _ h=>h⟩ fun b hb=>ZV b ?_
  rintro rfl;exact hH ⟨id,o,ho,hb⟩
 ·rw[eI,eψ,R6];exact h.own id o b ho hb
 ·rw[eI]at Vi;rw[eψ];exact h.par id Vi
 ·rw[eS]at hb
  exact hold b hb fun hh=>hm ((hmp b).2 hh)
theorem Z7.take(h:Z7 E n ψ s a w){d:Deferred}{ds:List Deferred}(hd:a.defers=d::ds):
 ∃D,d.target= .collected D/\(Instr.takeDeferred D).run P w= .ok [] (w.putObj D (.deferred none))/\Z7 E n ψ s {a with defers:=ds} (w.putObj D (.deferred none)):=by
 obtain⟨hn,Zq⟩:=h.defers;rw[hd]at hn Zq;obtain⟨D,rfl,hk,hA,hD⟩:=Zq d a4E;refine⟨D,rfl,run_takeDeferred hD,?_⟩
 have ZV:∀b,b≠D->(w.putObj D (.deferred none)).heap[b]? =w.heap[b]? :=fun b hb=>World.putObj_heap_other hb
 refine h.ctl ⟨_,hD,rfl⟩ hA.2 rfl rfl rfl rfl rfl ⟨rfl,rfl,rfl,a8F _⟩ (fun b hb hm=>?_) ⟨(b2H.1 hn).2,fun d' M3=>?_⟩
 ·rw[ZV b (by omega)];exact h.old b hb hm
 ·obtain⟨D',rfl,g1,g2,g3⟩:=Zq d' (a9C _ M3);refine⟨D',rfl,g1,g2,?_⟩;rw[ZV D' (fun e=>(b2H.1 hn).1 (e▸M3))];exact g3
theorem d9U{fn:Func}{R:Ending->World->Prop}{tmps:Array Value}(key:∀w,Z7 E n ψ s {tmps:=tmps,defers:=[]} w->∃v,(results fn tmps).run P w= .ok v w/\R (.returned v) w):
 ∀(ds:List Deferred) (w:World),Z7 E n ψ s {tmps:=tmps,defers:=ds} w->LeavesInM Fence.wide 0 P fn tmps R ds .returning w:=by
 intro ds
 induction ds with
 |nil=>intro w h;exact key w h
 |cons d ds ih=>
  intro w h;obtain⟨D,h1,h2,h3⟩:=h.take (P:=P) (d:=d) (ds:=ds) rfl;exact⟨by simp, .inl ⟨D,_,h1,h2,ih _ h3⟩⟩
end
def ZG(P:Program)(f:FuncId):Option (Nat×Z9×List Sp):=do
 let fn<-P.funcs[f]?
 let code<-fn.body
 let c<-UO P fn.ntmps code
 let rs<-fn.results.toList.mapM (d8e P)
 if fn.ntmps<=999 then pure (fn.ntmps,c,rs)else none
def Ends(fr:Bool)(rs:List Sp)(res:AV)(H':Hp)(s:St):Prop:=
 ∃s' l,Le s s'/\rs.mapM (VN s')=some l/\res=Jc l/\(∀id,look s'.hp id=look H' id)/\(fr=true->res.flat=true/\∀id o,look H' id=some o->o.flat)
def IZ(fr:Bool)(rs:List Sp)(R:AV->Hp->Prop)(s:St):Prop:=
 ∃s' l H',Le s s'/\rs.mapM (VN s')=some l/\R (Jc l) H'/\(∀id,look s'.hp id=look H' id)/\(fr=true->(Jc l).flat=true/\∀id o,look H' id=some o->o.flat)
def g0V(fr:Bool)(rs:List Sp)(R:AV->Hp->Prop):Yr:=⟨IZ fr rs R,fun _ _=>False,IZ fr rs R,fun _ _=>False⟩
def g1V(fr:Bool)(rs:List Sp)(res:AV)(H':Hp):Yr:=⟨Ends fr rs res H',fun _ _=>False,Ends fr rs res H',fun _ _=>False⟩
theorem mF{H:Hp}{id:Nat}(h:id∈H.map (·.1)):∃o,look H id=some o:=b6K (a6M.2 h)
theorem CN{α:Type}:∀{l:List (Nat×α)} {k:Nat} {x:α},look l k=some x->(k,x)∈l
 | [],_,_,h=>by cases h
 |(j,y)::r,k,x,h=>by
  simp only[look]at h;split at h
  ·rename_i e;subst e;cases h;exact a4E
  ·exact a9C _ (CN h)
theorem e4d{P:Program}{fr:Bool}{f:FuncId}{args:List AV}{H:Hp}{R:AV->Hp->Prop}{n:Nat}{c:Z9}{rs:List Sp}(hf:ZG P f=some (n,c,rs))
 (YZ:args.length<=n) (Uj:(H.map (·.1)).all (1000<= ·)=true) (U5:(H.all fun p=> !p.2.Zf)=true) (DQ:∀res H',R res H'->∀id o,look H' id=some o->o.Zf=false)
 (hvc:VC P n c ⟨SR 0 args,H⟩ (g0V fr rs R)):Mr P fr f args H R:=by
 unfold ZG at hf;obtain⟨fn,h1,hf⟩:=bind_some hf;obtain⟨code,h2,hf⟩:=bind_some hf;obtain⟨c',h3,hf⟩:=bind_some hf;obtain⟨rs',h4,hf⟩:=bind_some hf;split at hf
 ·simp only[a2I,a3y,a2L]at hf;obtain⟨rfl,rfl,rfl⟩:=hf
  have Sl:∀id o,look H id=some o->o.Zf=false:=fun id o ho=>by
   have:=a8C.1 U5 (id,o) (CN ho);simpa using this
  have org:∀{o:Ob} {id:Nat},o.Zf=false->o.org id=id:=by intro o id h;cases o<;>first|rfl|cases h
  refine⟨⟨Sl,DQ⟩,?_⟩;intro A ψ w vs hA UJ hinj VU Wi hlen U9
  have Ya:vs.toArray.size=vs.length:=by simp
  have eb:∀id∈H.map (·.1),1000<=id:=fun id Vi=>by simpa using a8C.1 Uj id Vi
  have ed:∀b id,id∈H.map (·.1)->ZZ ψ id b->¬A b:=fun b id Vi hb=>by
   obtain⟨o,ho⟩:=mF Vi;exact Wi b ⟨id,o,ho,hb⟩
  have et:∀id b,id∈H.map (·.1)->ZZ ψ id b->b<w.heap.size:=fun id b Vi hb=>by
   obtain⟨o,ho⟩:=mF Vi
   rcases hb with⟨k,hb⟩|hb
   ·exact(UJ id o ho).lt hb
   ·exact(VU id o b ho hb).2.1
  let E:En:=⟨A,w,H.map (·.1),ψ,eb,ed,et,hA,fun _=>False,fun _ h=>h.elim,fun _ h=>h.elim,fun _ _ _ _ h=>h⟩
  have De:∀b,A b->Im E ψ H b:=fun b hb=>⟨.inl hb,fun hh=>Wi b hh hb⟩
  have XG:T8 E fn.ntmps ⟨SR 0 args,H⟩ {tmps:=vs.toArray++c6w (fn.ntmps-vs.toArray.size) undef,defers:=[]} w:=by
   refine⟨ψ,{size:=?_,defers:=⟨by simp,fun d hd=>by cases hd⟩,frame:=fun t=>?_,YC:=fun id o ho=>?_,inj:=hinj,own:=fun id o b ho hb=> .inl ?_,YU:=VU,par:=fun id Vi=>rfl,old:=fun b hb _=>rfl,grow:=a8F _,same:=⟨rfl,rfl,rfl,a8F _⟩}⟩
   ·simp;omega
   ·simp only[St.get,d7e,Nat.zero_le,if_true,Nat.sub_zero]
    cases hx:args[t]? with
    |none=>exact .junk _
    |some x=>
     have Z2:t<vs.length:=by rw[hlen];exact(a5y.1 hx).1
     have e:(vs.toArray++c6w (fn.ntmps-vs.toArray.size) undef).getD t undef=vs.getD t undef:=by
      simp[a3E,Array.getElem?_append,Z2,a7V]
     rw[e];exact(U9 t x hx).mono (fun b _ hb=>De b hb) (fun _ _ _=>rfl) (U8.refl _ _)
   ·exact(UJ id o ho).mono (fun b _ hb=>De b hb) (fun _ _ _=>rfl) (U8.refl _ _) ⟨rfl,fun _ h=>h⟩ (fun _ _=>rfl)
   ·rw[org (Sl id o ho)];exact⟨a6M.1 (CD ho),hb⟩
  refine callsIn_wide.1 (callsIn_of_wp_marks (n:=0) h1 h2 trivial (Code.wpIn_mono ?_ (hvc code h3 none 0 (.inl rfl) E _ w XG)))
  have f7Z:∀(tmps:Array Value) w',(∃s,T8 E fn.ntmps s {tmps:=tmps,defers:=[]} w'/\IZ fr rs' R s)->∃v,(results fn tmps).run P w'= .ok v w'/\∃v' ZF res H',R res H'/\Ending.returned v= .returned v'∧
   (∀b,b<w.heap.size->¬ZD ψ H b->w'.heap[b]? =w.heap[b]?)/\w.heap.size<=w'.heap.size/\Rn w w'∧
   (∀id o,look H id=some o->ZF id=ψ id)∧
   (∀id o b,look H' id=some o->ZZ ZF id b->(∃o0,look H id=some o0/\ZZ ψ id b)\/w.heap.size<=b)∧
   (∀id XK o o' b,look H' id=some o->look H' XK=some o'->ZZ ZF id b->ZZ ZF XK b->id=XK)/\Ug ZF H' w'∧
   (∀id o,look H' id=some o->WU (fun b=>((fr=false/\A b)\/w.heap.size<=b)/\¬ZD ZF H' b) ZF H' w' id o)∧
   ZL (fun b=>((fr=false/\A b)\/w.heap.size<=b)/\¬ZD ZF H' b) ZF H' w' res v':=by
   rintro tmps w' ⟨s,hs,s',l,H',hle,hl,TJ,hH,DP⟩;obtain⟨ZF,h⟩:=hle E _ _ w' hs;obtain⟨us,u1,u2,u3⟩:=d2f h _ _ _ h4 hl;have MU:=DQ _ H' TJ;refine⟨_,d3f u1,_,ZF,_,H',TJ,rfl,?_⟩
   have hrv:ZL (Im E ZF s'.hp) ZF s'.hp w' (Jc l) (oneOf us):=by
    clear TJ DP
    match l,us,u2,u3 with
    | [x],[v],_,u3=>exact u3 0 x rfl
    | [],[],_,_=>exact .Zp _ _ rfl (by simp)
    |x::y::l,v::u::us,u2,u3=>
     refine .Zp _ _ (by simpa using u2) fun i c hc=>?_
     rw[b4K];exact u3 i c hc
   refine⟨fun b hb hm=>h.old b hb ?_,h.grow,⟨h.same.1,h.same.2.1,h.same.2.2.1,h.same.2.2.2⟩,fun id o ho=>h.par id (a6M.1 (CD ho)),fun id o b ho hb=>?_,fun id XK o o' b g1 g2 g3 g4=>?_,fun id o b ho hb=>h.YU id o b (by rw[hH];exact ho) hb,fun id o ho=>?_,?_⟩
   ·rintro(⟨id,Vi,hb⟩|hp)
    ·obtain⟨o,ho⟩:=mF Vi;exact hm ⟨id,o,ho,hb⟩
    ·exact hp
   ·rcases h.own id o b (by rw[hH];exact ho) hb with⟨Vi,how⟩|hp|X9
    ·rw[org (MU id o ho)]at Vi how;obtain⟨o',XI⟩:=mF Vi;exact .inl ⟨o',XI,how⟩
    ·exact hp.elim
    ·exact .inr X9
   ·exact h.inj id XK o o' b (by rw[hH];exact g1) (by rw[hH];exact g2) g3 g4
   ·have XI:=(h.YC id o (by rw[hH];exact ho)).hp (fun id=>(hH id).symm)
    cases fr with
    |true=>exact XI.flat ((DP rfl).2 id o ho)
    |false=>
     refine XI.mono (fun b _ hb=>⟨?_,fun hh=>hb.2 ((d0f hH b).2 hh)⟩) (fun _ _ _=>rfl) (U8.refl _ _) ⟨rfl,fun _ h=>h⟩ (fun _ _=>rfl)
     rcases hb.1 with h|h|h
     ·exact .inl ⟨rfl,h⟩
     ·exact h.elim
     ·exact .inr h
   ·have hr':=hrv.hp (fun id=>(hH id).symm)
    cases fr with
    |true=>exact hr'.flat (DP rfl).1
    |false=>
     refine hr'.mono (fun b _ hb=>⟨?_,fun hh=>hb.2 ((d0f hH b).2 hh)⟩) (fun _ _ _=>rfl) (U8.refl _ _)
     rcases hb.1 with h|h|h
     ·exact .inl ⟨rfl,h⟩
     ·exact h.elim
     ·exact .inr h
  intro e a' w' hp
  cases e with
  |normal=>
   obtain⟨s,⟨ZF,hs⟩,he⟩:=hp;obtain⟨tmps,ds⟩:=a';exact d9U (fun w2 h2=>f7Z tmps w2 ⟨s,⟨ZF,h2⟩,he⟩) ds w' hs
  |ret=>
   obtain⟨s,⟨ZF,hs⟩,he⟩:=hp;obtain⟨tmps,ds⟩:=a';exact d9U (fun w2 h2=>f7Z tmps w2 ⟨s,⟨ZF,h2⟩,he⟩) ds w' hs
  |exit id=>obtain⟨_,_,hk⟩:=hp;exact hk.elim
  |goto l=>obtain⟨_,_,hk⟩:=hp;exact hk.elim
  |panic=>exact hp.elim
  |outgrown=>exact hp.elim
 ·cases hf
theorem IN{P:Program}{fr:Bool}{f:FuncId}{args:List AV}{H H':Hp}{res:AV}{n:Nat}{c:Z9}{rs:List Sp}(hf:ZG P f=some (n,c,rs))
 (YZ:args.length<=n) (Uj:(H.map (·.1)).all (1000<= ·)=true) (U5:((H++H').all fun p=> !p.2.Zf)=true) (hvc:VC P n c ⟨SR 0 args,H⟩ (g1V fr rs res H')):ZX P fr f args H res H':=by
 have MU:∀id o,look H' id=some o->o.Zf=false:=fun id o ho=>by
  have:=a8C.1 U5 (id,o) (List.mem_append_right _ (CN ho));simpa using this
 have conv:∀s,Ends fr rs res H' s->IZ fr rs (fun r K=>r=res/\K=H') s:=fun s ⟨s',l,q1,q2,q3,q4,q5⟩=>⟨s',l,H',q1,q2,⟨q3.symm,rfl⟩,q4,fun e=>by rw[<-q3];exact q5 e⟩
 refine(e4d (R:=fun r K=>r=res/\K=H') hf YZ Uj ?_ (fun r K e=>by obtain⟨rfl,rfl⟩:=e;exact MU) (hvc.mono conv (fun _ _ h=>h) conv (fun _ _ h=>h))).one (fun _ _ h=>h) MU;rw[List.all_append,a3C]at U5;exact U5.1
def ZE(S:List (List AV)->Prop)(Zs:List (List AV)->GZ)(Zx:List (List AV)->List AV->GZ):GZ:=fun A B w=>(∃xs,S xs/\Zs xs A B w)\/∃pre x,Zx pre x A B w
def ox(P:Program)(f:FuncId)(caps:List IV)(T4:List (List AV)->List AV->Prop)(S:List (List AV)->Prop):Prop:=
 ∀(l:Nat) (Zs:List (List AV)->GZ) (Zx:List (List AV)->List AV->GZ) (cont:List (List AV)->List AV->Bool),
 (∀pre x,T4 pre x->ow P l x (Zs pre) (cont pre x) (if cont pre x then Zs (pre++[x])else Zx pre x))->
 ZX P false f (.iv (.v (.func (.yield l) #[] #[]))::caps.map AV.iv) [(1000, .gh (Zs []) [] [])] (.Zp []) [(1000, .gh (ZE S Zs Zx) [] [])]
theorem ow.conv{P:Program}{l:Nat}{x:List AV}{Z Z' Z1 Z1':GZ}{b:Bool}(h:ow P l x Z b Z')(h1:∀A B w,Z1 A B w->Z A B w)(h2:∀A B w,Z' A B w->Z1' A B w):ow P l x Z1 b Z1':=by
 intro A B w vs a1 a2 a3 a4 a5 a6;obtain⟨fn,tmps,assign,body,hr,Wx⟩:=h A B w vs a1 a2 a3 (fun A' B' w' k1 k2 k3 k4=>h1 _ _ _ (a4 A' B' w' k1 k2 k3 k4)) a5 a6;exact⟨fn,tmps,assign,body,hr,fun m=>(Wx m).mono fun e w' ⟨B',q1,q2,q3,q4,q5,q6,q7⟩=>⟨B',q1,q2,q3,q4,q5,q6,fun A' B' w' k1 k2 k3 k4=>h2 _ _ _ (q7 A' B' w' k1 k2 k3 k4)⟩⟩
def ZT:GZ:=fun _ _ _=>True
def UF:List Nat->List AV->St->St
 |p::ps,x::xs,s=>UF ps xs (s.set p x)
 | _,_,s=>s
def II(E:En)(ψ:Pl)(H:Hp)(A B:Nat->Prop)(w:World)(b:Nat):Prop:=((A b/\¬P0 w b)\/(B b/\(E.A b\/E.fresh b)))/\¬ZD ψ H b
structure ZA (E:En) (ds:List Deferred) (H:Hp) (l D:Nat) (rec:Loop) (A B:Nat->Prop) (w:World) (ψ:Pl):Prop where
 YC:∀id o,look H id=some o->WU (II E ψ H A B w) ψ H w id o
 inj:∀id XK o o' b,look H id=some o->look H XK=some o'->ZZ ψ id b->ZZ ψ XK b->id=XK
 own:∀id o b,look H id=some o->ZZ ψ id b->(o.org id∈E.ids/\ZZ E.ψ (o.org id) b)\/E.fresh b
 YU:Ug ψ H w
 par:∀id,id∈E.ids->ψ id=E.ψ id
 held:∀b,ZD ψ H b->B b
 ids:∀id b,id∈E.ids->ZZ E.ψ id b->B b
 nl:¬ZD ψ H l
 nD:¬ZD ψ H D
 bl:B l
 bD:B D
 hl:w.heap[l]? =some (.loop rec)
 hD:w.heap[D]? =some (.deferred (some []))
 old:∀b,b<E.w.heap.size->¬E.mp b->w.heap[b]? =E.w.heap[b]? /\((A b/\¬P0 w b)\/B b)
 defs:lO E.w.heap.size (fun b=>B b/\¬ZD ψ H b) w ds
def ZC(E:En)(ds:List Deferred)(H:Hp)(l D:Nat)(rec:Loop):GZ:=fun A B w=>∃ψ,ZA E ds H l D rec A B w ψ
theorem ZC.gok{E:En}{ds:List Deferred}{H:Hp}{l D:Nat}{rec:Loop}{A B:Nat->Prop}{w:World}(h:ZC E ds H l D rec A B w):NF (ZC E ds H l D rec) A B w:=by
 intro A' B' w' k1 k2 k3 k4;obtain⟨ψ,h⟩:=h
 have lt:∀b,b<w.heap.size->A b->¬P0 w b->b<w'.heap.size/\¬P0 w' b:=fun b hb ha hd=>by
  have e:=k3 b hb ha hd;refine⟨?_,fun⟨q,hq,hc⟩=>hd ⟨q,by rw[<-e];exact hq,hc⟩⟩;rw[a3N hb]at e;exact Vw e
 have ltB:∀b,b<w.heap.size->B b->b<w'.heap.size:=fun b hb h=>by
  have e:=k4 b h;rw[a3N hb]at e;exact Vw e
 have hI:∀b,b<w.heap.size->II E ψ H A B w b->II E ψ H A' B' w' b:=fun b hb ⟨h,h''⟩=>⟨h.imp (fun⟨a,d⟩=>⟨k1 b hb a d,(lt b hb a d).2⟩) (fun h=>⟨k2 b h.1,h.2⟩),h''⟩
 have hw:∀b,b<w.heap.size->II E ψ H A B w b->w'.heap[b]? =w.heap[b]? :=fun b hb ⟨h,_⟩=>by
  rcases h with⟨a,d⟩|h
  ·exact k3 b hb a d
  ·exact k4 b h.1
 refine⟨ψ,fun id o ho=>(h.YC id o ho).mono hI hw (U8.refl _ _) ⟨rfl,fun _ h=>h⟩ (fun b hb=>k4 b (h.held b ⟨id,o,ho,hb⟩)),h.inj,h.own,fun id o b ho hb=>?_,h.par,fun b hb=>k2 b (h.held b hb),fun id b hi ho=>k2 b (h.ids id b hi ho),
  h.nl,h.nD,k2 _ h.bl,k2 _ h.bD,(k4 _ h.bl).trans h.hl,(k4 _ h.bD).trans h.hD,fun b hb hm=>?_,⟨h.defs.1,fun d hd=>?_⟩⟩
 ·obtain⟨q1,q2,q3⟩:=h.YU id o b ho hb;exact⟨q1,ltB b q2 (h.held b ⟨id,o,ho, .inr hb⟩),q3⟩
 ·obtain⟨e,h'⟩:=h.old b hb hm
  rcases h' with⟨a,d⟩|h'
  ·by_cases FE:b<w.heap.size
   ·exact⟨(k3 b FE a d).trans e, .inl ⟨k1 b FE a d,(lt b FE a d).2⟩⟩
   ·exfalso
    rw[b0k (by omega),a3N hb]at e;cases e
  ·exact⟨(k4 b h').trans e, .inr (k2 b h')⟩
 ·obtain⟨D',g1,g2,g3,g4⟩:=h.defs.2 d hd;exact⟨D',g1,g2,⟨k2 _ g3.1,g3.2⟩,(k4 _ g3.1).trans g4⟩
theorem b7v{α:Type}:∀{l:List (Nat×α)} {t:Nat} {x:α},look l t=some x->∃i:Nat,l[i]? =some (t,x)
 | [],_,_,h=>by cases h
 |(j,y)::r,t,x,h=>by
  simp only[look]at h;split at h
  ·rename_i e;subst e;cases h;exact⟨0,rfl⟩
  ·obtain⟨i,hi⟩:=b7v h;exact⟨i+1,hi⟩
def PB(tmps:Array Value)(fr:List (Nat×AV)):List Value:=fr.map fun p=>tmps.getD p.1 undef
def XU(fr:List (Nat×AV)):List AV:=fr.map fun p=>p.2
theorem b8v{A:Nat->Prop}{ψ:Pl}{H:Hp}{w:World}{r:Nat}{tmps:Array Value}{fr:List (Nat×AV)}(h:WU A ψ H w r (.gh ZT (PB tmps fr) (XU fr)))(H2:Hp)(t:Nat):
 ZL A ψ H w (St.get ⟨fr,H2⟩ t) (tmps.getD t undef):=by
 simp only[St.get]
 cases hl:look fr t with
 |none=>exact .junk _
 |some x=>
  obtain⟨i,hi⟩:=b7v hl;obtain⟨_,_,_,h4⟩:=h;have:=h4 i x (by simp[XU,hi]);simpa[PB,a7V,hi]using this
def En.round(E:En)(ψ:Pl)(H:Hp)(A B:Nat->Prop)(w w2:World)(Ya:E.w.heap.size<=w.heap.size)(Tt:w2.heap.size=w.heap.size)
 (g0x:∀id b,id∈E.ids->ZZ E.ψ id b->B b) (ov:∀b,B b->¬A b):En where
 A:=fun b=>b<w.heap.size/\II E ψ H A B w b
 w:=w2
 ids:=E.ids
 ψ:=E.ψ
 big:=E.big
 lN:=fun b id hi ho ha=>by
  rcases ha.2.1 with h|⟨_,h|h|h⟩
  ·exact ov b (g0x id b hi ho) h.1
  ·exact E.lN b id hi ho h
  ·exact E.KJ b id hi ho h
  ·have:=E.there id b hi ho;omega
 there:=fun id b h1 h2=>by rw[Tt];exact a6R (E.there id b h1 h2) Ya
 inA:=fun b h=>by rw[Tt];exact h.1
 ND:=fun b=>E.fresh b/\ZD ψ H b/\b<w.heap.size
 f8O:=fun b h=>by rw[Tt];exact h.2.2
 f9O:=fun b h h'=>h'.2.2 h.2.1
 KJ:=fun b id hi ho hp=>by
  rcases hp.1 with h|h
  ·exact E.KJ b id hi ho h
  ·have:=E.there id b hi ho;omega
theorem b9v{E:En}{n:Nat}{ψ:Pl}{w:World}:∀(ps:List Nat) (xs:List AV) (vs:List Value) (s:St) (a:Act),Z7 E n ψ s a w->(∀p∈ps,p<n)->xs.length=ps.length->vs.length=ps.length->
 (∀i x,xs[i]? =some x->ZL (Im E ψ s.hp) pl0 [] w x (vs.getD i undef))->Z7 E n ψ (UF ps xs s) {a with tmps:=(ps.zip vs).foldl (fun t p=>t.setIfInBounds p.1 p.2) a.tmps} w:=by
 intro ps
 induction ps with
 |nil=>intro xs vs s a h _ h1 h2 _;cases xs<;>cases vs<;>first|exact h|simp at h1 h2
 |cons p ps ih=>
  intro xs vs s a h hp h1 h2 hr
  match xs,vs,h1,h2 with
  |x::xs,v::vs,h1,h2=>
   have hv:=hr 0 x rfl
   exact ih xs vs (s.set p x) (a.put (some p) v) (h.set (hp p a4E) (g1x hv)) (fun q hq=>hp q (a9C _ hq)) (by simpa using h1) (by simpa using h2)
    (fun i y hy=>hr (i+1) y (by simpa using hy))
def NC(fn:FuncId)(tmps:Array Value)(ps:Array Nat)(cx cy:Code)(D:Nat)(c:Option Code):Loop:=
 {state:=if c.isNone then .ready else .done,pending:=c,fn,tmps,params:=ps,assign:=cx,body:=cy,defers:=D}
def ZJ(E:En)(ds:List Deferred)(l D:Nat)(fn:FuncId)(tmps:Array Value)(ps:Array Nat)(cx cy:Code)(J:Option Code->Prop)(H:Hp):GZ:=fun A B w=>
 ∃c,J c/\ZC E ds H l D (NC fn tmps ps cx cy D c) A B w
theorem ZJ.gok{E:En}{ds:List Deferred}{l D:Nat}{fn:FuncId}{tmps:Array Value}{ps:Array Nat}{cx cy:Code}{J:Option Code->Prop}{H:Hp}{A B:Nat->Prop}{w:World}
 (h:ZJ E ds l D fn tmps ps cx cy J H A B w):NF (ZJ E ds l D fn tmps ps cx cy J H) A B w:=by
 obtain⟨c,hc,h⟩:=h
 exact fun A' B' w' k1 k2 k3 k4=>⟨c,hc,h.gok A' B' w' k1 k2 k3 k4⟩
theorem b1w{P:Program}{E:En}{n:Nat}{tmps:Array Value}{ds:List Deferred}{fr:List (Nat×AV)}{H H':Hp}{r l D:Nat}{fn:FuncId}{ps:Array Nat}{cx cy:Code}{x:List AV}{X Y:Z9}
 (hx:UO P n cx=some X) (hy:UO P n cy=some Y) (rx:X.QN=true) (ry:Y.QN=true) (FD:∀p∈ps.toList,p<n) (hlen:x.length=ps.size) (Cl:tmps.size=n)
 (hl:E.w.heap.size<=l) (hD:E.w.heap.size<=D) (hlD:D≠l) (gr:look H r=some (.gh ZT (PB tmps fr) (XU fr))) (J:Option Code->Prop) (b:Bool) (hJ:∀c,J c->c.isNone=b)
 (hv:VC P n X (UF ps.toList x ⟨fr,H⟩) ⟨fun s'=>VC P n Y s' ⟨fun s2=>J none/\Le s2 ⟨[],H'⟩,fun id s2=>J (some (.exit id))/\Le s2 ⟨[],H'⟩,fun s2=>J (some .ret)/\Le s2 ⟨[],H'⟩,fun _ _=>False⟩,
  fun _ _=>False,fun _=>False,fun _ _=>False⟩):
 ow P l x (ZJ E ds l D fn tmps ps cx cy (· =none) H) b (ZJ E ds l D fn tmps ps cx cy J H'):=by
 intro A B w vs hA hB ov Tp Dg hrv;obtain⟨c,rfl,ψ,hz⟩:=Tp.now
 have Ya:E.w.heap.size<=w.heap.size:=by have:=Vw hz.hl;omega
 refine⟨fn,_,cx,cy,run_yield hz.hl (by simp[NC,Dg,hlen]),fun m=>?_⟩
 let E1:=E.round ψ H A B w w Ya rfl hz.ids ov
 have Ck:∀k,k<w.heap.size->II E ψ H A B w k->Im E1 ψ H k:=fun k hk h=>⟨.inl ⟨hk,h⟩,h.2⟩
 have XG:Z7 E1 n ψ ⟨fr,H⟩ {tmps:=tmps,defers:=[]} w:={
  size:=Cl
  defers:=⟨by simp,fun d hd=>by cases hd⟩
  frame:=fun t=>(b8v (hz.YC r _ gr) H t).mono Ck (fun _ _ _=>rfl) (U8.refl _ _)
  YC:=fun id o ho=>(hz.YC id o ho).mono Ck (fun _ _ _=>rfl) (U8.refl _ _) ⟨rfl,fun _ h=>h⟩ (fun _ _=>rfl)
  inj:=hz.inj
  own:=fun id o k ho hk=>(hz.own id o k ho hk).imp (fun h=>h) fun hf=> .inl ⟨hf,⟨id,o,ho,hk⟩,hB k (hz.held k ⟨id,o,ho,hk⟩)⟩
  YU:=hz.YU
  par:=hz.par
  old:=fun _ _ _=>rfl
  grow:=a8F _
  same:=⟨rfl,rfl,rfl,a8F _⟩}
 have f0P:=b9v ps.toList x vs _ _ XG FD (by simpa using hlen) (by simpa[Dg]using hlen) (fun i y hy=>(hrv i y hy).Ut.mono (fun k hk h=>Ck k hk ⟨.inl h,fun hh=>ov k (hz.held k hh) h.1⟩) (fun _ _ _=>rfl) (fun id o ho=>by cases ho))
 have g2x:(ps.toList.zip vs).foldl (fun(t:Array Value) p=>t.setIfInBounds p.1 p.2) tmps=(ps.zip vs.toArray).foldl (fun(t:Array Value) (p:Nat×Value)=>t.setIfInBounds p.1 p.2) tmps:=by
  rw[<-Array.foldl_toList,Array.toList_zip]
 have NB:Z7 E1 n ψ (UF ps.toList x ⟨fr,H⟩) {tmps:=(ps.zip vs.toArray).foldl (fun(t:Array Value) (p:Nat×Value)=>t.setIfInBounds p.1 p.2) tmps,defers:=[]} w:=by
  rw[<-g2x];exact f0P
 have lnm:∀{s:St} {a:Act} {w':World} {ZF:Pl},Z7 E1 n ZF s a w'->¬E1.mp l/\¬ZD ZF s.hp l:=by
  intro s a w' ZF h
  have h1:¬E1.mp l:=by
   rintro(⟨id,hi,ho⟩|hp)
   ·have:=E.there id l hi ho;omega
   ·exact hz.nl hp.2.1
  refine⟨h1,fun⟨id,o,ho,hk⟩=>?_⟩
  rcases h.own id o l ho hk with⟨q1,q2⟩|q|q
  ·exact h1 (.inl ⟨_,q1,q2⟩)
  ·exact h1 (.inr q)
  ·have:=Vw hz.hl;have:w.heap.size<=l:=q;omega
 have g3x:∀k,E1.mp k->B k:=by
  rintro k (⟨id,hi,ho⟩|hp)
  ·exact hz.ids id k hi ho
  ·exact hz.held k hp.2.1
 refine roundIn_of_wpIn trivial (Code.wpIn_mono ?_ (hv cx hx (some l) m (.inr rx) E1 _ w ⟨ψ,NB⟩));intro e a1 w1 hp
 cases e with
 |normal=>
  obtain⟨s1,⟨ψ1,h1⟩,hk⟩:=hp;obtain⟨n1,n2⟩:=lnm h1
  have Sl:w1.heap[l]? =some (.loop (NC fn tmps ps cx cy D none)):=by rw[h1.old l (Vw hz.hl) n1];exact hz.hl
  refine⟨_,run_beginRound Sl rfl,?_⟩
  let E2:=E.round ψ H A B w (w.putObj l (.loop {NC fn tmps ps cx cy D none with state:= .busy})) Ya (by simp) hz.ids ov
  have h2:Z7 E2 n ψ1 s1 {a1 with defers:=a1.defers} (w1.putObj l (.loop {NC fn tmps ps cx cy D none with state:= .busy})):=by
   refine h1.ctl (E2:=E2) (o':= .loop {NC fn tmps ps cx cy D none with state:= .busy}) ⟨_,Sl,rfl⟩ n2 rfl rfl rfl rfl (by simp[E2,E1,En.round]) ⟨rfl,rfl,rfl,a8F _⟩ (fun k hk hm=>?_) ?_
   ·by_cases e:k=l
    ·subst e;rw[World.putObj_heap_same (Vw Sl)];exact(World.putObj_heap_same (Vw hz.hl)).symm
    ·rw[World.putObj_heap_other e];refine(h1.old k hk hm).trans ?_;exact(World.putObj_heap_other e).symm
   ·refine⟨h1.defers.1,fun d hd=>?_⟩;obtain⟨D',g1,g2,g3,g4⟩:=h1.defers.2 d hd;refine⟨D',g1,g2,g3,?_⟩;rw[World.putObj_heap_other (fun e=>by subst e;rw[Sl]at g4;cases g4)]
    exact g4
  have fin:∀(c:Option Code) (s3:St) (a3:Act) (w3:World),T8 E2 n s3 a3 w3->J c->Le s3 ⟨[],H'⟩->∃v w',(Instr.endRound l c).run P w3= .ok v w'/\∃B':Nat->Prop,Ending.returned v= .returned (.bool b)∧
   (∀k,k<w.heap.size->¬B k->w'.heap[k]? =w.heap[k]?)/\w.heap.size<=w'.heap.size/\Rn w w'/\(∀k,B' k->B k\/w.heap.size<=k)/\(∀k,B' k->k<w'.heap.size)∧
   NF (ZJ E ds l D fn tmps ps cx cy J H') (fun k=>(A k\/w.heap.size<=k)/\¬B' k) B' w':=by
   intro c s3 a3 w3 hs hc hle;obtain⟨Cj,h4⟩:=hle E2 n a3 w3 hs
   have PA:E2.w.heap.size=w.heap.size:=by simp[E2,En.round]
   have ou:w.heap.size<=w3.heap.size:=by have:=h4.grow;rw[PA]at this;exact this
   have nm2:∀k,¬B k->¬E2.mp k:=fun k hk hm=>hk (g3x k hm)
   have lM:¬E2.mp l/\¬ZD Cj H' l:=by
    refine⟨(lnm h1).1,fun⟨id,o,ho,hk⟩=>?_⟩
    rcases h4.own id o l ho hk with⟨q1,q2⟩|q|q
    ·exact(lnm h1).1 (.inl ⟨_,q1,q2⟩)
    ·exact(lnm h1).1 (.inr q)
    ·rw[PA]at q;have:=Vw hz.hl;omega
   have ot:w3.heap[l]? =some (.loop {NC fn tmps ps cx cy D none with state:= .busy}):=by
    rw[h4.old l (by rw[PA];exact Vw hz.hl) lM.1];exact World.putObj_heap_same (Vw hz.hl)
   have XA:=run_endRound (P:=P) c ot;refine⟨_,_,XA,fun k=>B k\/ZD Cj H' k,?_,fun k hk hb=>?_,by simpa using ou,⟨h4.same.1,h4.same.2.1,h4.same.2.2.1,h4.same.2.2.2⟩,fun k hk=>?_,fun k hk=>?_,?_⟩
   ·rw[hJ c hc]
   ·have Vy:k≠l:=fun e=>hb (e▸hz.bl)
    rw[World.putObj_heap_other Vy,h4.old k (by rw[PA];exact hk) (nm2 k hb)];exact World.putObj_heap_other Vy
   ·rcases hk with hk|⟨id,o,ho,hk⟩
    ·exact .inl hk
    ·rcases h4.own id o k ho hk with⟨q1,q2⟩|q|q
     ·exact .inl (hz.ids _ k q1 q2)
     ·exact .inl (hz.held k q.2.1)
     ·rw[PA]at q;exact .inr q
   ·rcases hk with hk|⟨id,o,ho,hk⟩
    ·have:=hB k hk;simp;omega
    ·simpa using h4.lt ho hk
   ·refine ZJ.gok ⟨c,hc,Cj,?_⟩
    have ZV:∀{o:Obj} k,k≠l->(w3.putObj l o).heap[k]? =w3.heap[k]? :=fun k hk=>World.putObj_heap_other hk
    have FC:P0 w3 l:=⟨_,ot,rfl⟩
    have nH:∀k,k<w.heap.size->(∀id,id∈E.ids->¬ZZ E.ψ id k)->¬(E.fresh k/\ZD ψ H k)->¬ZD Cj H' k:=by
     rintro k hk hi hp ⟨id,o,ho,hq⟩
     rcases h4.own id o k ho hq with⟨q1,q2⟩|q|q
     ·exact hi _ q1 q2
     ·exact hp ⟨q.1,q.2.1⟩
     ·rw[PA]at q;omega
    have nM:∀k,(∀id,id∈E.ids->¬ZZ E.ψ id k)->¬(E.fresh k/\ZD ψ H k)->¬E2.mp k:=by
     rintro k hi hp (⟨id,h1,h2⟩|q)
     ·exact hi id h1 h2
     ·exact hp ⟨q.1,q.2.1⟩
    have Ci:∀k,E.w.heap.size<=k->∀id,id∈E.ids->¬ZZ E.ψ id k:=fun k hk id hi ho=>by have:=E.there id k hi ho;omega
    have e2:∀k,k≠l->E2.w.heap[k]? =w.heap[k]? :=fun k hk=>World.putObj_heap_other hk
    have hI:∀k,k<w3.heap.size->Iz (Im E2 Cj H') w3 k->II E Cj H' (fun k=>(A k\/w.heap.size<=k)/\¬(B k\/ZD Cj H' k)) (fun k=>B k\/ZD Cj H' k)
     (w3.putObj l (.loop {NC fn tmps ps cx cy D none with state:=if c.isNone then .ready else .done,pending:=c})) k:=by
     rintro k hk ⟨⟨De,hnh⟩,VM⟩
     have Vy:k≠l:=fun e=>VM (e▸FC)
     have f1P:∀o,¬P0 (w3.putObj l o) k:=fun o ⟨q,hq,hc⟩=>VM ⟨q,by rw[<-ZV k Vy];exact hq,hc⟩
     refine⟨?_,hnh⟩
     rcases De with⟨hkw,hA1,_⟩|q|q
     ·rcases hA1 with⟨ha,_⟩|⟨hb,hf⟩
      ·exact .inl ⟨⟨.inl ha,fun h=>h.elim (fun h=>ov k h ha) hnh⟩,f1P _⟩
      ·exact .inr ⟨.inl hb,hf⟩
     ·exact .inr ⟨.inl (hz.held k q.2.1), .inr q.1⟩
     ·rw[PA]at q;exact .inl ⟨⟨.inr q,fun h=>h.elim (fun h=>by have:=hB k h;omega) hnh⟩,f1P _⟩
    have hw4:∀k,k<w3.heap.size->Iz (Im E2 Cj H') w3 k->(w3.putObj l (.loop {NC fn tmps ps cx cy D none with state:=if c.isNone then .ready else .done,pending:=c})).heap[k]? =w3.heap[k]? :=
     fun k _ h=>ZV k fun e=>h.2 (e▸FC)
    have back:∀k,k<w.heap.size->k≠l->(∀id,id∈E.ids->¬ZZ E.ψ id k)->¬(E.fresh k/\ZD ψ H k)->∀o,(w3.putObj l o).heap[k]? =w.heap[k]? :=fun k hk Vy hi hp o=>by
     rw[ZV k Vy,h4.old k (by rw[PA];exact hk) (nM k hi hp)];exact e2 k Vy
    exact {
     YC:=fun id o ho=>(h4.YC id o ho).Ut.mono hI hw4 (U8.refl _ _) ⟨rfl,fun _ h=>h⟩ fun k hk=>ZV k (by rintro rfl;exact lM.2 ⟨id,o,ho,hk⟩)
     inj:=h4.inj
     own:=fun id o k ho hk=>(h4.own id o k ho hk).imp (fun h=>h) fun q=>by
      rcases q with q|q
      ·exact q.1
      ·rw[PA]at q;exact .inr (a0N Ya q)
     YU:=h4.YU.ext (by simp)
     par:=h4.par
     held:=fun k hk=> .inr hk
     ids:=fun id k hi ho=> .inl (hz.ids id k hi ho)
     nl:=lM.2
     nD:=nH D (Vw hz.hD) (Ci D hD) (fun h=>hz.nD h.2)
     bl:= .inl hz.bl
     bD:= .inl hz.bD
     hl:=World.putObj_heap_same (Vw ot)
     hD:=(back D (Vw hz.hD) hlD (Ci D hD) (fun h=>hz.nD h.2) _).trans hz.hD
     old:=fun k hk hm=>by
      obtain⟨g1,g2⟩:=hz.old k hk hm
      have Vy:k≠l:=by omega
      have hi:∀id,id∈E.ids->¬ZZ E.ψ id k:=fun id hi ho=>hm (.inl ⟨id,hi,ho⟩)
      have hp:¬(E.fresh k/\ZD ψ H k):=fun h=>E.no hk hm h.1
      have e:=back k (by omega) Vy hi hp (.loop {NC fn tmps ps cx cy D none with state:=if c.isNone then .ready else .done,pending:=c});refine⟨e.trans g1,?_⟩
      rcases g2 with⟨ha,hd⟩|hb
      ·exact .inl ⟨⟨.inl ha,fun h=>h.elim (fun h=>ov k h ha) (nH k (by omega) hi hp)⟩,fun⟨q,hq,hc⟩=>hd ⟨q,by rw[<-e];exact hq,hc⟩⟩
      ·exact .inr (.inl hb)
     defs:=⟨hz.defs.1,fun d hd=>by
      obtain⟨D',g1,g2,g3,g4⟩:=hz.defs.2 d hd;have hk:=Vw g4
      have Vy:D'≠l:=fun e=>by subst e;rw[hz.hl]at g4;cases g4
      have hp:¬(E.fresh D'/\ZD ψ H D'):=fun h=>g3.2 h.2
      exact⟨D',g1,g2,⟨.inl g3.1,nH D' hk (Ci D' g2) hp⟩,(back D' hk Vy (Ci D' g2) hp _).trans g4⟩⟩}
  refine Code.wpIn_mono ?_ (hk cy hy (some l) m (.inr ry) E2 _ _ ⟨ψ1,h2⟩);intro e a3 w3 hp
  cases e with
  |normal=>obtain⟨s3,hs,hc,hle⟩:=hp;exact fin none s3 a3 w3 hs hc hle
  |ret=>obtain⟨s3,hs,hc,hle⟩:=hp;exact fin (some .ret) s3 a3 w3 hs hc hle
  |exit id=>obtain⟨s3,hs,hc,hle⟩:=hp;exact fin (some (.exit id)) s3 a3 w3 hs hc hle
  |goto t=>obtain⟨_,_,hk⟩:=hp;exact hk.elim
  |panic ch=>exact hp.elim
  |outgrown=>exact hp.elim
 |exit id=>obtain⟨_,_,hk⟩:=hp;exact hk.elim
 |ret=>obtain⟨_,_,hk⟩:=hp;exact hk.elim
 |goto t=>obtain⟨_,_,hk⟩:=hp;exact hk.elim
 |panic ch=>exact hp.elim
 |outgrown=>exact hp.elim
def MI(P:Program)(W1 W2:St->Yr->Prop)(g:Operand)(ps:List Nat)(s:St)(O:Yr):Prop:=
 ∃(f:FuncId) (caps:List IV) (T4:List (List AV)->List AV->Prop) (S:List (List AV)->Prop) (r:Nat) (fr:List (Nat×AV)) (I:List (List AV)->Prop) (H:List (List AV)->Hp) (cont:List (List AV)->List AV->Bool) (Hx:List (List AV)->List AV->Hp),
  (Le s ⟨fr,H []⟩/\St.ev ⟨fr,H []⟩ g= .fn f [] (caps.map Z3.val)/\XV P f=true/\ox P f caps T4 S/\r<1000/\look (H []) r=none/\(fr.map (·.1)).Nodup/\(∀pre x,T4 pre x->x.length=ps.length)/\I [])∧
  (∀vs pre x,I pre->T4 pre x->cont pre x=true->I (pre++[x])/\W1 (UF ps x ⟨fr,(r, .gh ZT vs (XU fr))::H pre⟩)
   ⟨fun s'=>W2 s' ⟨fun s2=>Le s2 ⟨[],(r, .gh ZT vs (XU fr))::H (pre++[x])⟩,fun _ _=>False,fun _=>False,fun _ _=>False⟩,fun _ _=>False,fun _=>False,fun _ _=>False⟩)∧
  (∀vs pre x,I pre->T4 pre x->cont pre x=false->W1 (UF ps x ⟨fr,(r, .gh ZT vs (XU fr))::H pre⟩)
   ⟨fun s'=>W2 s' ⟨fun _=>False,fun id s2=>Le s2 ⟨[],(r, .gh ZT vs (XU fr))::Hx pre x⟩/\∃s',Le ⟨fr,(r, .gh ZT vs (XU fr))::Hx pre x⟩ s'/\O.x id s',
    fun s2=>Le s2 ⟨[],(r, .gh ZT vs (XU fr))::Hx pre x⟩/\∃s',Le ⟨fr,(r, .gh ZT vs (XU fr))::Hx pre x⟩ s'/\O.r s',fun _ _=>False⟩,fun _ _=>False,fun _=>False,fun _ _=>False⟩)∧
  ∀vs xs,I xs->S xs->∃s',Le ⟨fr,(r, .gh ZT vs (XU fr))::H xs⟩ s'/\O.n s'
theorem e1y{P:Program}{W1 W2 W1' W2':St->Yr->Prop}{g:Operand}{ps:List Nat}{s:St}{O O':Yr}
 (m1:∀{s:St} {O O':Yr},(∀s,O.n s->O'.n s)->(∀i s,O.x i s->O'.x i s)->(∀s,O.r s->O'.r s)->(∀i s,O.g i s->O'.g i s)->W1 s O->W1' s O')
 (m2:∀{s:St} {O O':Yr},(∀s,O.n s->O'.n s)->(∀i s,O.x i s->O'.x i s)->(∀s,O.r s->O'.r s)->(∀i s,O.g i s->O'.g i s)->W2 s O->W2' s O')
 (hn:∀s,O.n s->O'.n s) (hx:∀i s,O.x i s->O'.x i s) (hr:∀s,O.r s->O'.r s) (h:MI P W1 W2 g ps s O):MI P W1' W2' g ps s O':=by
 obtain⟨f,caps,T4,S,r,fr,I,H,cont,Hx,h1,h2,h3,h4⟩:=h;refine⟨f,caps,T4,S,r,fr,I,H,cont,Hx,h1,fun vs pre x q1 q2 q3=>⟨(h2 vs pre x q1 q2 q3).1,?_⟩,fun vs pre x q1 q2 q3=>?_,fun vs xs q1 q2=>?_⟩
 ·refine m1 ?_ ?_ ?_ ?_ (h2 vs pre x q1 q2 q3).2
  ·intro s h;exact m2 (fun _ h=>h) (fun _ _ h=>h) (fun _ h=>h) (fun _ _ h=>h) h
  ·exact fun _ _ h=>h
  ·exact fun _ h=>h
  ·exact fun _ _ h=>h
 ·refine m1 ?_ ?_ ?_ ?_ (h3 vs pre x q1 q2 q3)
  ·intro s h;refine m2 ?_ ?_ ?_ ?_ h
   ·exact fun _ h=>h
   ·exact fun _ _ ⟨q,s',q1,q2⟩=>⟨q,s',q1,hx _ _ q2⟩
   ·exact fun _ ⟨q,s',q1,q2⟩=>⟨q,s',q1,hr _ q2⟩
   ·exact fun _ _ h=>h
  ·exact fun _ _ h=>h
  ·exact fun _ h=>h
  ·exact fun _ _ h=>h
 ·obtain⟨s',g1,g2⟩:=h4 vs xs q1 q2;exact⟨s',g1,hn _ g2⟩
theorem e2y{P:Program}{W1 W2 W1' W2':St->Yr->Prop}{g:Operand}{ps:List Nat}{s:St}{O:Yr}
 (w1:∀s O,W1 s O->W1' s O) (w2:∀s O,W2 s O->W2' s O)
 (m1:∀{s:St} {O O':Yr},(∀s,O.n s->O'.n s)->(∀i s,O.x i s->O'.x i s)->(∀s,O.r s->O'.r s)->(∀i s,O.g i s->O'.g i s)->W1' s O->W1' s O')
 (h:MI P W1 W2 g ps s O):MI P W1' W2' g ps s O:=by
 obtain⟨f,caps,T4,S,r,fr,I,H,cont,Hx,h1,h2,h3,h4⟩:=h;refine⟨f,caps,T4,S,r,fr,I,H,cont,Hx,h1,fun vs pre x q1 q2 q3=>⟨(h2 vs pre x q1 q2 q3).1,?_⟩,fun vs pre x q1 q2 q3=>?_,h4⟩
 ·refine m1 ?_ ?_ ?_ ?_ (w1 _ _ (h2 vs pre x q1 q2 q3).2)
  ·exact fun s h=>w2 _ _ h
  ·exact fun _ _ h=>h
  ·exact fun _ h=>h
  ·exact fun _ _ h=>h
 ·refine m1 ?_ ?_ ?_ ?_ (w1 _ _ (h3 vs pre x q1 q2 q3))
  ·exact fun s h=>w2 _ _ h
  ·exact fun _ _ h=>h
  ·exact fun _ h=>h
  ·exact fun _ _ h=>h
theorem e3y{α:Type}:∀{l:List (Nat×α)} {i t:Nat} {x:α},(l.map (·.1)).Nodup->l[i]? =some (t,x)->look l t=some x
 | [],_,_,_,_,h=>by simp at h
 |(j,y)::r,i,t,x,hn,h=>by
  simp only[a0I,b2H]at hn
  cases i with
  |zero=>simp only[a0F,a3y,a2L]at h;obtain⟨rfl,rfl⟩:=h;simp[look]
  |succ i=>
   have h:r[i]? =some (t,x):=by simpa using h
   have:j≠t:=by rintro rfl;exact hn.1 (a0E.2 ⟨(j,x),a6y h,rfl⟩)
   simp only[look,if_neg this];exact e3y hn.2 h
theorem e4y{P:Program}{n:Nat}{g:Operand}{ps:List Nat}{X Y:Z9}{s:St}{O:Yr}(hv:MI P (VC P n X) (VC P n Y) g ps s O):VC P n (.QB g ps X Y) s O:=by
 intro code hc ro m T1 E a w hs
 cases code<;>simp only[UO]at hc<;>(first|cases hc|skip)
 case rangeFunc g' CU cx cy=>
  obtain⟨X',hX,hc⟩:=bind_some hc;obtain⟨Y',hY,hc⟩:=bind_some hc;obtain⟨e,rx,ry,FD⟩:=c8B hc;simp only[Z9.QB.injEq]at e;obtain⟨rfl,rfl,rfl,rfl⟩:=e;obtain rfl:ro=none:=T1.resolve_right (by simp[Z9.QN]);obtain⟨f,caps,T4,S,r,fr,I,H0,cont,Hx,⟨h1,hg,ZY,VS,hr,Df,VM,hlen,hI0⟩,Wx,g2a,TN⟩:=hv
  obtain⟨H,hH⟩:∃H:Nat->Hp,H 0=H0 []:=⟨fun _=>H0 [],rfl⟩;rw[<-hH]at h1 hg Df;obtain⟨ψ,h⟩:=h1 E n a w hs
  have hnr:r∉E.ids:=fun hi=>by have:=E.big r hi;omega
  refine wpIn_rangeFunc ?_;intro fn _;obtain⟨W1,hW1⟩:∃W1,(w.alloc (.deferred (some []))).alloc (.loop (NC fn a.tmps CU cx cy w.heap.size none))=W1:=⟨_,rfl⟩
  have M4:Ext w W1:=by rw[<-hW1];exact(Ext.alloc _ _).trans (Ext.alloc _ _)
  have Ya:W1.heap.size=w.heap.size+2:=by rw[<-hW1];simp
  have hL1:W1.heap[w.heap.size+1]? =some (.loop (NC fn a.tmps CU cx cy w.heap.size none)):=by
   rw[<-hW1];have:=World.alloc_heap_new (w.alloc (.deferred (some []))) (.loop (NC fn a.tmps CU cx cy w.heap.size none));rwa [World.size_alloc]at this
  have hD1:W1.heap[w.heap.size]? =some (.deferred (some [])):=by
   rw[<-hW1];exact((Ext.alloc _ _).block _ (by simp)).trans (World.alloc_heap_new w _)
  have h':=h.ext M4
  let A:Nat->Prop:=fun b=>b<w.heap.size/\Im E ψ (H 0) b/\¬P0 w b
  let B:Nat->Prop:=fun b=>b<W1.heap.size/\¬A b
  have nd1:∀b,b<w.heap.size->(P0 W1 b↔P0 w b):=fun b hb=>by simp only[P0,M4.block b hb]
  have Z2:∀{b},ZD ψ (H 0) b->b<w.heap.size:=fun⟨id,o,ho,hb⟩=>h.lt ho hb
  have nh:∀b,b<W1.heap.size->Iz (Im E ψ (H 0)) W1 b->A b:=by
   rintro b hb ⟨De,VM⟩
   by_cases hbw:b<w.heap.size
   ·exact⟨hbw,De,fun h=>VM ((nd1 b hbw).2 h)⟩
   ·exfalso
    have:b=w.heap.size\/b=w.heap.size+1:=by omega
    rcases this with rfl|rfl
    ·exact VM ⟨_,hD1,rfl⟩
    ·exact VM ⟨_,hL1,rfl⟩
  let Hr:Hp->Hp:=fun K=>(r, .gh ZT (PB a.tmps fr) (XU fr))::K
  let Hk:=XE ψ r none
  have pa:∀{K:Hp} {id:Nat},look (Hr K) id=if r=id then some (.gh ZT (PB a.tmps fr) (XU fr))else look K id:=fun {K id}=>rfl
  have o9:∀{id b},id≠r->(ZZ Hk id b↔ZZ ψ id b):=fun ZV=>Ix none ZV
  have oZ:∀{b},¬ZZ Hk r b:=fun hb=>by obtain⟨k,h⟩:=e3r r none hb;cases h
  have PL:∀{b},ZD Hk (Hr (H 0)) b->ZD ψ (H 0) b:=by
   rintro b ⟨id,o,ho,hb⟩;rw[pa]at ho
   by_cases e:r=id
   ·subst e;exact(oZ hb).elim
   ·rw[if_neg e]at ho;exact⟨id,o,ho,(o9 (Ne.symm e)).1 hb⟩
  have hI:∀b,b<W1.heap.size->Iz (Im E ψ (H 0)) W1 b->II E Hk (Hr (H 0)) A B W1 b:=fun b hb hd=>
   ⟨.inl ⟨nh b hb hd,hd.2⟩,fun hh=>hd.1.2 (PL hh)⟩
  have Wf:U8 ψ Hk (H 0) (Hr (H 0)):=by
   intro id o ho
   have ZV:id≠r:=by rintro rfl;rw[Df]at ho;cases ho
   exact⟨⟨o,by rw[pa,if_neg (Ne.symm ZV)];exact ho,o.le_refl⟩,by simp[Hk,XE,ZV]⟩
  have hAI:∀b,A b->E.A b\/E.fresh b:=fun b hb=>hb.2.1.1
  have ov:∀b,B b->¬A b:=fun b hb=>hb.2
  have hz:ZA E a.defers (Hr (H 0)) (w.heap.size+1) w.heap.size (NC fn a.tmps CU cx cy w.heap.size none) A B W1 Hk:={
   YC:=fun id o ho=>by
    rw[pa]at ho
    by_cases e:r=id
    ·subst e;rw[if_pos rfl]at ho;cases ho;refine⟨by simp[Hk,XE],fun _ _ _ _ _ _ _=>trivial,by simp[PB,XU],fun i x hx=>?_⟩;simp only[XU,a1C]at hx;obtain⟨⟨t,x'⟩,hi,rfl⟩:=a9R.1 hx;have hf:=(h'.frame t).Ut.mono hI (fun _ _ _=>rfl) Wf;simp only[St.get,e3y VM hi,a1J]at hf;simpa[PB,a7V,hi]using hf
    ·rw[if_neg e]at ho;exact(h'.YC id o ho).Ut.mono hI (fun _ _ _=>rfl) Wf ⟨by simp[Hk,XE,Ne.symm e],fun b hb=>⟨Ne.symm e,hb⟩⟩ (fun _ _=>rfl)
   inj:=fun id XK o o' b q1 q2 q3 q4=>by
    rw[pa]at q1 q2
    by_cases e:r=id
    ·subst e;exact(oZ q3).elim
    ·by_cases e':r=XK
     ·subst e';exact(oZ q4).elim
     ·rw[if_neg e]at q1;rw[if_neg e']at q2;exact h.inj id XK o o' b q1 q2 ((o9 (Ne.symm e)).1 q3) ((o9 (Ne.symm e')).1 q4)
   own:=fun id o b ho hb=>by
    rw[pa]at ho
    by_cases e:r=id
    ·subst e;exact(oZ hb).elim
    ·rw[if_neg e]at ho;exact h.own id o b ho ((o9 (Ne.symm e)).1 hb)
   YU:=fun id o b ho hb=>by
    rw[pa]at ho
    by_cases e:r=id
    ·exact absurd e.symm hb.1
    ·rw[if_neg e]at ho;obtain⟨q1,q2,q3⟩:=h.YU id o b ho hb.2;exact⟨q1,by omega,fun k=>by simp only[Hk,XE,if_neg (Ne.symm e)];exact q3 k⟩
   par:=fun id hi=>by
    have:id≠r:=fun e=>hnr (e▸hi)
    simp only[Hk,XE,if_neg this];exact h.par id hi
   held:=fun b hb=>⟨by have:=Z2 (PL hb);omega,fun ha=>ha.2.1.2 (PL hb)⟩
   ids:=fun id b hi ho=>⟨by have:=E.there id b hi ho;have:=h.grow;omega,fun ha=>by
    rcases hAI b ha with q|q|q
    ·exact E.lN b id hi ho q
    ·exact E.KJ b id hi ho q
    ·have:=E.there id b hi ho;omega⟩
   nl:=fun hh=>by have:=Z2 (PL hh);omega
   nD:=fun hh=>by have:=Z2 (PL hh);omega
   bl:=⟨by omega,fun ha=>by have:=ha.1;omega⟩
   bD:=⟨by omega,fun ha=>by have:=ha.1;omega⟩
   hl:=hL1
   hD:=hD1
   old:=fun b hb hm=>by
    have hbw:b<w.heap.size:=a6R hb h.grow;refine⟨(M4.block b hbw).trans (h.old b hb hm),?_⟩
    by_cases ha:A b
    ·exact .inl ⟨ha,fun hd=>ha.2.2 ((nd1 b hbw).1 hd)⟩
    ·exact .inr ⟨by omega,ha⟩
   defs:=⟨h.defers.1,fun d hd=>by
    obtain⟨D',g1,g2,g3,g4⟩:=h.defers.2 d hd;have hk:=Vw g4
    exact⟨D',g1,g2,⟨⟨by omega,fun ha=>ha.2.2 ⟨_,g4,rfl⟩⟩,fun hh=>g3.2 (PL hh)⟩,(M4.block D' hk).trans g4⟩⟩}
  let Zs:List (List AV)->GZ:=fun p A B w'=>I p/\ZJ E a.defers (w.heap.size+1) w.heap.size fn a.tmps CU cx cy (· =none) (Hr (H0 p)) A B w'
  have LA:E.w.heap.size<=w.heap.size:=h.grow
  have g3a:∀p∈CU.toList,p<n:=fun p hp=>by simpa using a8C.1 FD p hp
  let Fin:Option Code->Hp->Prop:=fun c K=>match c with
   |none=>∃s',Le ⟨fr,K⟩ s'/\O.n s'
   |some .ret=>∃s',Le ⟨fr,K⟩ s'/\O.r s'
   |some (.exit id)=>∃s',Le ⟨fr,K⟩ s'/\O.x id s'
   | _=>False
  let Zx:List (List AV)->List AV->GZ:=fun p x=>ZJ E a.defers (w.heap.size+1) w.heap.size fn a.tmps CU cx cy (fun c=>c.isNone=false/\Fin c (Hr (Hx p x))) (Hr (Hx p x))
  have PK:∀pre x,T4 pre x->ow P (w.heap.size+1) x (Zs pre) (cont pre x) (if cont pre x then Zs (pre++[x])else Zx pre x):=by
   intro pre x hp
   by_cases hIp:I pre
   ·by_cases Ve:cont pre x=true
    ·rw[Ve,if_pos rfl];obtain⟨hI1,QP⟩:=Wx (PB a.tmps fr) pre x hIp hp Ve
     refine(b1w (r:=r) (fr:=fr) (H:=Hr (H0 pre)) (H':=Hr (H0 (pre++[x]))) hX hY rx ry g3a (by rw[hlen pre x hp];simp) h.size (by omega) (by omega) (by omega) (by rw[pa,if_pos rfl]) (· =none) true (fun c hc=>by subst hc;rfl) ?_).conv
      (fun A B w' hz=>hz.2) (fun A B w' hz=>⟨hI1,hz⟩)
     exact QP.mono (fun s' QS=>QS.mono (fun s2 h=>⟨rfl,h⟩) (fun _ _ h=>h.elim) (fun _ h=>h.elim) (fun _ _ h=>h)) (fun _ _ h=>h) (fun _ h=>h) (fun _ _ h=>h)
    ·have Ve:cont pre x=false:=by simpa using Ve
     rw[Ve,if_neg (by simp)]
     refine(b1w (r:=r) (fr:=fr) (H:=Hr (H0 pre)) (H':=Hr (Hx pre x)) hX hY rx ry g3a (by rw[hlen pre x hp];simp) h.size (by omega) (by omega) (by omega) (by rw[pa,if_pos rfl]) (fun c=>c.isNone=false/\Fin c (Hr (Hx pre x))) false (fun c hc=>hc.1) ?_).conv
      (fun A B w' hz=>hz.2) (fun A B w' hz=>hz)
     exact(g2a (PB a.tmps fr) pre x hIp hp Ve).mono (fun s' QS=>QS.mono (fun s2 h=>h.elim) (fun id s2 ⟨q1,q2⟩=>⟨⟨rfl,q2⟩,q1⟩) (fun s2 ⟨q1,q2⟩=>⟨⟨rfl,q2⟩,q1⟩) (fun _ _ h=>h)) (fun _ _ h=>h) (fun _ h=>h) (fun _ _ h=>h)
   ·exact fun A B w' vs _ _ _ hg _ _=>absurd hg.now.1 hIp
  have Mn:∀A B w',ZE S Zs Zx A B w'->∃c K,ZC E a.defers (Hr K) (w.heap.size+1) w.heap.size (NC fn a.tmps CU cx cy w.heap.size c) A B w'/\Fin c (Hr K):=by
   rintro A B w' (⟨xs,hS,hIx,c,hc,hz⟩|⟨pre,x,c,hc,hz⟩)
   ·exact⟨c,H0 xs,hz,by subst hc;exact TN _ xs hIx hS⟩
   ·exact⟨c,Hx pre x,hz,hc.2⟩
  have HA:=VS (w.heap.size+1) Zs Zx cont PK;have hgv:=h'.ev g;rw[hg]at hgv;generalize g0W:a.eval g=gv at hgv
  cases hgv with
  |fn _ _ _ vf vc hvf hvc q1 q2=>
  obtain rfl:vf= #[]:=b9b (by simpa using hvf)
  let ψg:Pl:=⟨fun _=>none,fun id b=>id=1000/\B b⟩
  have lk1:∀{o:Ob} {id:Nat} {q:Ob},look [(1000,o)] id=some q->id=1000/\q=o:=by
   intro o id q h;simp only[look]at h;split at h
   ·exact⟨by omega,by cases h;rfl⟩
   ·cases h
  have f9L:∀{b},ZD ψg [(1000,Ob.gh (Zs []) [] [])] b->B b:=by
   rintro b ⟨id,o,ho,hb⟩
   rcases hb with⟨k,hb⟩|hb
   ·cases hb
   ·exact hb.2
  have hz0:NF (ZJ E a.defers (w.heap.size+1) w.heap.size fn a.tmps CU cx cy (· =none) (Hr (H0 []))) A B W1:=ZJ.gok ⟨none,rfl,Hk,hH▸hz⟩
  have g4a:=HA.2 A ψg W1 (.func (.yield (w.heap.size+1)) #[] #[]::vc.toList) (fun b hb=>by have:=hb.1;omega)
   (fun id o ho=>by
    obtain⟨rfl,rfl⟩:=lk1 ho
    exact⟨rfl,NF.mono (Z:=Zs []) (A:=A) (B:=B) (w:=W1) (fun A' B' w' k1 k2 k3 k4=>⟨hI0,hz0 A' B' w' k1 k2 k3 k4⟩) (fun _ _ h=>h) (fun b hb=>⟨rfl,hb⟩) (fun _ _ _=>rfl) (fun _ _=>rfl),rfl,by simp⟩)
   (fun id XK o o' b q1 q2 _ _=>by obtain⟨rfl,_⟩:=lk1 q1;obtain⟨rfl,_⟩:=lk1 q2;rfl)
   (fun id o b ho hb=>by obtain⟨rfl,rfl⟩:=lk1 ho;exact⟨rfl,hb.2.1,fun _ h=>by cases h⟩)
   (fun b hb=>(f9L hb).2) (by simp[hvc])
   (fun i x hx=>by
    cases i with
    |zero=>simp only[a0F,a3y]at hx;subst hx;exact .iv _ _ (.v _ rfl)
    |succ i=>
     simp only[a5J,a1C]at hx;obtain⟨y,hy,rfl⟩:=a9R.1 hx;have:=q2 i (.val y) (by simp[hy]);rw[List.getD_cons_succ,Sn]
     cases this with
     |val _ _ hv=>exact .iv _ _ (hv.Ut.mono nh (fun _ _ _=>rfl)))
  refine⟨w.heap.size+1,[{target:= .collected w.heap.size,args:= #[]}],W1,{target:= .fn (.func f) vc,args:= #[.func (.yield (w.heap.size+1)) #[] #[]]},W1,f,
   (.func (.yield (w.heap.size+1)) #[] #[]::vc.toList).toArray,W1,?_,?_,fun _ _=>trivial,?_,(fun h=>by cases h),?_⟩
  ·rw[<-hW1];exact run_enterLoop_outer _ _ _ _ _
  ·simp only[resolve,g0W];simp[go_sem]
  ·have e1:(Value.func (.yield (w.heap.size+1)) #[] #[]::vc.toList).toArray= #[.func (.yield (w.heap.size+1)) #[] #[]]++vc:=by apply b1p;simp
   rw[e1];simp only[invoke];exact d3X ZY _ _
  ·refine e4n (ro:=none) (Calls.mono g4a ?_);rintro e w' ⟨v,ZF,rfl,k1,k2,k3,k4,k5,k6,kS,k7,k8⟩;obtain⟨_,g1W,_,_⟩:=k7 1000 (.gh (ZE S Zs Zx) [] []) rfl;obtain⟨c,K,⟨ng,hf⟩,hfc⟩:=Mn _ _ _ g1W.now
   have hnb:(NC fn a.tmps CU cx cy w.heap.size c).state≠ .busy:=by cases c<;>simp[NC]
   refine⟨c,_,run_endLoop hf.hl hnb,?_⟩
   have Ck:∀b,b<w'.heap.size->II E ng (Hr K) (fun b=>((false=false/\A b)\/W1.heap.size<=b)/\¬ZD ZF [(1000, .gh (ZE S Zs Zx) [] [])] b) (ZF.sub 1000) w' b->Im E ng (Hr K) b:=by
    rintro b _ ⟨q,hnh⟩;refine⟨?_,hnh⟩
    rcases q with⟨⟨⟨_,q⟩|q,_⟩,_⟩|⟨_,q⟩
    ·exact hAI b q
    ·exact .inr (.inr (by omega))
    ·exact q
   have DG:lO E.w.heap.size (Im E ng (Hr K)) w' ({target:= .collected w.heap.size,args:= #[]}::a.defers):=by
    refine⟨b2H.2 ⟨fun hm=>?_,h.defers.1⟩,fun d hd=>?_⟩
    ·obtain⟨D',g1,g2,g3,g4⟩:=h.defers.2 _ hm;simp only[Deferred.mk.injEq,Target.collected.injEq]at g1;have:=Vw g4;omega
    ·rcases a5E.1 hd with rfl|hd
     ·exact⟨w.heap.size,rfl,LA,⟨.inr (.inr LA),hf.nD⟩,hf.hD⟩
     ·obtain⟨D',g1,g2,g3,g4⟩:=hf.defs.2 d hd;exact⟨D',g1,g2,⟨.inr (.inr g2),g3.2⟩,g4⟩
   have Ik:E.w.heap.size<=w'.heap.size:=by omega
   have XG:Z7 E n ng ⟨fr,Hr K⟩ {tmps:=a.tmps,defers:={target:= .collected w.heap.size,args:= #[]}::a.defers} w':={
    size:=h.size
    defers:=DG
    frame:=fun t=>(b8v (hf.YC r _ (by rw[pa,if_pos rfl])) (Hr K) t).mono Ck (fun _ _ _=>rfl) (U8.refl _ _)
    YC:=fun id o ho=>(hf.YC id o ho).mono Ck (fun _ _ _=>rfl) (U8.refl _ _) ⟨rfl,fun _ h=>h⟩ (fun _ _=>rfl)
    inj:=hf.inj
    own:=hf.own
    YU:=hf.YU
    par:=hf.par
    old:=fun b hb hm=>(hf.old b hb hm).1
    grow:=Ik
    same:=⟨k3.os.trans (M4.same.1.trans h.same.1),k3.tape.trans (M4.same.2.1.trans h.same.2.1),k3.output.trans (M4.same.2.2.1.trans h.same.2.2.1),a0N (a0N h.same.2.2.2 M4.same.2.2.2) k3.drawn⟩}
   have ZV:∀o b,b≠w.heap.size+1->(w'.putObj (w.heap.size+1) o).heap[b]? =w'.heap[b]? :=fun o b hb=>World.putObj_heap_other hb
   have NB:∀o,Z7 E n ng ⟨fr,Hr K⟩ {tmps:=a.tmps,defers:={target:= .collected w.heap.size,args:= #[]}::a.defers} (w'.putObj (w.heap.size+1) o):=fun o=>by
    refine XG.ctl (E2:=E) (o':=o) ⟨_,hf.hl,rfl⟩ hf.nl rfl rfl rfl rfl rfl ⟨rfl,rfl,rfl,a8F _⟩ (fun b hb hm=>?_) ⟨DG.1,fun d hd=>?_⟩
    ·rw[ZV o b (by omega)];exact XG.old b hb hm
    ·obtain⟨D',g1,g2,g3,g4⟩:=DG.2 d hd;refine⟨D',g1,g2,g3,?_⟩;rw[ZV o D' (fun e=>by subst e;rw[hf.hl]at g4;cases g4)]
     exact g4
   cases c with
   |none=>obtain⟨s',q1,q2⟩:=hfc;exact⟨s',q1 E n _ _ ⟨ng,NB _⟩,q2⟩
   |some c=>
    cases c with
    |ret=>obtain⟨s',q1,q2⟩:=hfc;exact wpIn_ret ⟨s',q1 E n _ _ ⟨ng,NB _⟩,q2⟩
    |exit id=>obtain⟨s',q1,q2⟩:=hfc;exact wpIn_exit ⟨s',q1 E n _ _ ⟨ng,NB _⟩,q2⟩
    | _=>exact hfc.elim
 all_goals first
  |(rcases Io hc with⟨_,hc,_⟩|⟨_,hc,_⟩<;>cases hc)
  |(obtain⟨_,_,hc⟩:=bind_some hc;first|cases hc|exact(Hu hc (fun _ h=>by cases h) (fun _ _ _ h=>by cases h)).elim|(obtain⟨_,_,hc⟩:=bind_some hc;first|cases hc|(obtain⟨_,_,hc⟩:=bind_some hc;cases hc)))
end Go.Vm
end
