/-
  Parts of the proof, merged by a program of the prover's own; no condition.
-/
import Derived.Test.YthcoijldbdfboaaGreatDoorKRP2
import Derived.Deep.Draws
import Derived.JoinedCond
import Derived.KernelRfl
import Derived.LaidMore
import Derived.LaidSub
import Derived.Laws.RangeString
import Derived.Lay
import Derived.Lib.IndexMore
import Derived.Lib.ItoaNum
import Derived.Lib.Join
import Derived.Lib.JoinLaws
import Derived.Lib.LaidTab
import Derived.Lib.LaidU8
import Derived.Lib.LastIndexLaws
import Derived.Lib.RuneCount
import Derived.Lib.TrailingZeros
import Derived.Lib.TrimAscii
import Derived.Lib.ValidU
import Derived.OpenShut
import Derived.ProofKit
import Derived.Shelf.Vars
import Derived.Sort.Grow
import Derived.Test.YthcoijldbdfboaaGreatDoorChecked
import Derived.Test.YthcoijldbdfboaaGreatDoorProg
import Derived.Test.YthcoijldbdfboaaGreatDoorRows
import Derived.WalkKit
namespace Go.Proofs.YthcoijldbdfboaaGreatDoor.E
set_option linter.all false
section
open Go Go.ChangeShapes Go.RowKit Go.WideShapes
inductive Ty where
 | bool
 | int (k:IntKind)
 | str
 | slice (e:List Ty)
 deriving Inhabited
def Bk3 (P:Program) (f:Nat->Option (List Ty)):List Field->Nat->Option (List Ty)
 | [],_=>some []
 | x::r,off=>if x.offset==off then match f x.type with
   | some a=>if P.cellsOf x.type==a.length then match Bk3 P f r (off+a.length) with
    | some b=>some (a++b)
    | none=>none else none
   | none=>none else none
def Bq (P:Program):Nat->Nat->Option (List Ty)
 | 0,_=>none
 | d+1,t=>match P.underlying t with
  | some .bool=>some [.bool]
  | some (.int k)=>some [.int k]
  | some .string=>some [.str]
  | some (.slice e)=>match Bq P d e with
   | some a=>if P.cellsOf e==a.length&&decide (0<a.length) then some [.slice a] else none
   | none=>none
  | some (.struct fs)=>match Bk3 P (Bq P d) fs.toList 0 with
   | some r=>if P.cellsOf t==r.length then some r else none
   | none=>none
  | some (.array n e)=>match Bq P d e with
   | some a=>if P.cellsOf e==a.length&&P.cellsOf t==n*a.length then some (List.replicate n a).flatten else none
   | none=>none
  | _=>none
mutual
def Ty.of:Ty->SV->Prop
 | .bool,v=>∃ b,v = .bool b
 | .int k,v=>∃ n,v = .int k n/\k.min<=n/\n<=k.max
 | .str,v=>∃ l,v = .str l/\l.length<=maxLen
 | .slice e,v=>v = .sl true false e.length []\/∃ els,v = .sl false false e.length els/\els.length<=maxLen/\∀ el∈els,Ty.ofL e el
def Ty.ofL:List Ty->List SV->Prop
 | [],l=>l=[]
 | t::r,l=>∃ v q,l=v::q/\t.of v/\Ty.ofL r q
end
theorem Ty.ofL_len:∀ {ts:List Ty} {l:List SV},Ty.ofL ts l->l.length=ts.length
 | [],l,h=>by simp only [Ty.ofL] at h;subst h;rfl
 | t::r,l,h=>by
  simp only [Ty.ofL] at h
  obtain ⟨v,q,rfl,_,hq⟩:=h
  simp [Ty.ofL_len hq]
theorem Ty.ofL_append:∀ {a b:List Ty} {x y:List SV},Ty.ofL a x->Ty.ofL b y->Ty.ofL (a++b) (x++y)
 | [],b,x,y,h,k=>by simp only [Ty.ofL] at h;subst h;exact k
 | t::r,b,x,y,h,k=>by
  simp only [Ty.ofL] at h
  obtain ⟨v,q,rfl,hv,hq⟩:=h
  simp only [List.cons_append,Ty.ofL]
  exact ⟨v,q++y,rfl,hv,Ty.ofL_append hq k⟩
def CVS (St:Nat->Prop) (w:World) (l:List SV) (A:List Value):Prop:=A.length=l.length/\∀ j (h:j<l.length),∃ U,A[j]? = some U/\VS St w (l[j]) U
theorem CVS.append {St:Nat->Prop} {w:World} {x y:List SV} {X Y:List Value} (hx:CVS St w x X) (hy:CVS St w y Y):CVS St w (x++y) (X++Y):=by
 refine ⟨by simp [hx.1,hy.1],λj hj=>?_⟩
 by_cases h:j<x.length
 ·obtain ⟨U,e,k⟩:=hx.2 j h
  exact ⟨U,by rw [List.getElem?_append_left (by rw [hx.1];exact h)];exact e,by rw [List.getElem_append_left h];exact k⟩
 ·obtain ⟨U,e,k⟩:=hy.2 (j-x.length) (by simp at hj;omega)
  exact ⟨U,by rw [List.getElem?_append_right (by rw [hx.1];omega),hx.1];exact e,by rw [List.getElem_append_right (by omega)];exact k⟩
theorem CVS.one {St:Nat->Prop} {w:World} {v:SV} {V:Value} (h:VS St w v V):CVS St w [v] [V]:=⟨rfl,λj hj=>by
 have:j=0:=by simpa using hj
 subst this
 exact ⟨V,rfl,h⟩⟩
theorem A11 {w:World} {a:Addr} {V:Value} (h:w.cell? a=some V):a.spot=none/\a.block<w.heap.size:=by
 unfold World.cell? at h
 split at h
 ·rename_i c t fr hb
  refine ⟨?_,(Array.getElem?_eq_some_iff.1 hb).1⟩
  cases hs:a.spot with
  | none=>rfl
  | some x=>rw [hs] at h;simp at h
 ·cases h
theorem ON {a:Addr} (h:a.spot=none) (n:Nat):a.add n=⟨a.block,a.off+n,none⟩:=by
 unfold Addr.add
 split
 ·rename_i hn;subst hn;cases a;simp_all
 ·rfl
theorem Bq0 {a:Addr} {m n:Nat} (h:a.spot=none):(a.add m).add n=⟨a.block,a.off+m+n,none⟩:=by
 rw [ON h,ON rfl]
theorem GH {H:Type} {enc:TypeId × Value->H} {P:Program} {w:World} {base:Nat} {sp:Nat->Bool} {held:Bool} {f:Nat->Option (List Ty)} {m:Nat}
  (ih:∀ t tys cs x,f t=some tys->DataW.trod enc P w base sp held m t cs=some x->∃ svs,Ty.ofL tys svs/\CVS (· < w.heap.size) w svs cs) (cs:List Value) :
  ∀ (fs:List Field) (off:Nat) (tys:List Ty),Bk3 P f fs off=some tys->(∀ (i:Nat) (fl:Field),fs[i]? = some fl->∃ y,DataW.trod enc P w base sp held m fl.type ((cs.drop fl.offset).take (P.cellsOf fl.type))=some y)->
   ∃ svs,Ty.ofL tys svs/\CVS (· < w.heap.size) w svs ((cs.drop off).take tys.length)
 | [],off,tys,h,_=>by
  simp only [Bk3,Option.some.injEq] at h
  subst h
  exact ⟨[],rfl,by simp,λj hj=>by simp at hj⟩
 | x::r,off,tys,h,hall=>by
  simp only [Bk3] at h
  split at h
  ·rename_i hoff
   simp only [beq_iff_eq] at hoff
   split at h
   ·rename_i a ha
    split at h
    ·rename_i hc
     simp only [beq_iff_eq] at hc
     split at h
     ·rename_i b hb
      simp only [Option.some.injEq] at h
      subst h
      obtain ⟨y,hy⟩:=hall 0 x rfl
      rw [hoff,hc] at hy
      obtain ⟨s1,h1,h2⟩:=ih _ _ _ _ ha hy
      obtain ⟨s2,h3,h4⟩:=GH ih cs r _ b hb (λi fl hi=>hall (i+1) fl (by simpa using hi))
      refine ⟨s1++s2,Ty.ofL_append h1 h3,?_⟩
      have:=h2.append h4
      have e:(cs.drop off).take (a++b).length=(cs.drop off).take a.length++(cs.drop (off+a.length)).take b.length:=by
       rw [List.length_append,List.take_add,List.drop_drop]
      rw [e];exact this
     ·cases h
    ·cases h
   ·cases h
  ·cases h
theorem OP {H:Type} {enc:TypeId × Value->H} {P:Program} {w:World} {base:Nat} {sp:Nat->Bool} {held:Bool} {e m:Nat} {a:List Ty} (cs:List Value)
  (ih:∀ cs x,DataW.trod enc P w base sp held m e cs=some x->∃ svs,Ty.ofL a svs/\CVS (· < w.heap.size) w svs cs) (hc:P.cellsOf e=a.length) :
  ∀ (n k:Nat),(∀ i,k<=i->i<k+n->∃ y,DataW.trod enc P w base sp held m e ((cs.drop (i*P.cellsOf e)).take (P.cellsOf e))=some y)->
   ∃ svs,Ty.ofL (List.replicate n a).flatten svs/\CVS (· < w.heap.size) w svs ((cs.drop (k*a.length)).take (n*a.length))
 | 0,k,_=>⟨[],by simp [Ty.ofL],by simp,λj hj=>by simp at hj⟩
 | n+1,k,hall=>by
  obtain ⟨y,hy⟩:=hall k (Nat.le_refl _) (by omega)
  obtain ⟨s1,h1,h2⟩:=ih _ _ hy
  obtain ⟨s2,h3,h4⟩:=OP cs ih hc n (k+1) (λi hi1 hi2=>hall i (by omega) (by omega))
  rw [hc] at h2
  refine ⟨s1++s2,?_,?_⟩
  ·rw [List.replicate_succ,List.flatten_cons];exact Ty.ofL_append h1 h3
  ·have:=h2.append h4
   have e:(cs.drop (k*a.length)).take ((n+1)*a.length)=(cs.drop (k*a.length)).take a.length++(cs.drop ((k+1)*a.length)).take (n*a.length):=by
    rw [show (n+1)*a.length=a.length+n*a.length by rw [Nat.add_mul,Nat.one_mul,Nat.add_comm],List.take_add,List.drop_drop,show k*a.length+a.length=(k+1)*a.length by rw [Nat.add_mul,Nat.one_mul]]
   rw [e];exact this
theorem Xa {H:Type} {enc:TypeId × Value->H} {P:Program} {w:World} {base:Nat} {sp:Nat->Bool} {held:Bool}:∀ (n t:Nat) (tys:List Ty) (m:Nat) (cs:List Value) (x:DataW H × List MemPlace),Bq P n t=some tys->
  DataW.trod enc P w base sp held m t cs=some x->∃ svs,Ty.ofL tys svs/\CVS (· < w.heap.size) w svs cs
 | 0,t,tys,m,cs,x,h,_=>by simp [Bq] at h
 | n+1,t,tys,m,cs,x,h,hd=>by
  simp only [Bq] at h
  split at h
  ·rename_i ht
   simp only [Option.some.injEq] at h;subst h
   obtain ⟨b,rfl,_⟩:=DataW.trod_bool ht hd
   exact ⟨[.bool b],by simp [Ty.ofL,Ty.of],CVS.one (.bool b)⟩
  ·rename_i k ht
   simp only [Option.some.injEq] at h;subst h
   obtain ⟨b,rfl,_,hw⟩:=DataW.trod_int ht hd
   simp only [Lit.wf,Bool.and_eq_true,decide_eq_true_eq] at hw
   exact ⟨[.int k b],by simp [Ty.ofL,Ty.of,hw],CVS.one (.int k b)⟩
  ·rename_i ht
   simp only [Option.some.injEq] at h;subst h
   obtain ⟨b,rfl,_,hw⟩:=DataW.trod_string ht hd
   exact ⟨[.str b.data.toList],by simpa [Ty.ofL,Ty.of] using hw,CVS.one (.str b)⟩
  ·rename_i e ht
   split at h
   ·rename_i a ha
    split at h
    ·rename_i hc
     simp only [Bool.and_eq_true,beq_iff_eq,decide_eq_true_eq] at hc
     simp only [Option.some.injEq] at h;subst h
     rcases DataW.trod_slice ht hd with ⟨rfl,_⟩ | ⟨ad,len,cap,elems,rest,m',_,rfl,_,hb,hl,hm,hlen,hel,_,_⟩
     ·exact ⟨[.sl true false a.length []],by simp [Ty.ofL,Ty.of],CVS.one (.nil _ _)⟩
     ·have each:∀ i,i<len->∃ el cs',w.cells? base (ad.add (i*a.length)) a.length=some cs'/\Ty.ofL a el/\CVS (· < w.heap.size) w el cs':=λi hi=>by
       have h1:=hel i hi
       rw [List.getElem?_eq_getElem (by omega),hc.1,Option.bind_eq_some_iff] at h1
       obtain ⟨cs',h2,h3⟩:=h1
       obtain ⟨el,h4,h5⟩:=Xa n e a m' cs' _ ha h3
       exact ⟨el,cs',h2,h4,h5⟩
      by_cases h0:len=0
      ·subst h0
       exact ⟨[.sl false false a.length []],by simp [Ty.ofL,Ty.of],CVS.one (.emp _ _ _ _ (by simp) hm)⟩
      ·let els:List (List SV):=(List.range len).attach.map λi=>Classical.choose (each i.1 (List.mem_range.1 i.2))
       have hels:els.length=len:=by simp [els]
       have hget:∀ i (hi:i<els.length),∃ cs',w.cells? base (ad.add (i*a.length)) a.length=some cs'/\Ty.ofL a (els[i])/\CVS (· < w.heap.size) w (els[i]) cs':=λi hi=>by
        have hi':i<len:=by omega
        have e:els[i]=Classical.choose (each i hi'):=by simp [els]
        rw [e]
        exact Classical.choose_spec (each i hi')
       have hspot:ad.spot=none/\ad.block<w.heap.size:=by
        obtain ⟨cs',h1,h2,h3⟩:=hget 0 (by omega)
        obtain ⟨_,hl1,hl2⟩:=World.cells?_some h1
        have:=hl2 0 hc.2
        rw [List.getElem?_eq_getElem (by omega)] at this
        simp only [Nat.zero_mul,Addr.add,if_true] at this
        exact A11 this
       have hel:∀ i (hi:i<els.length),(els[i]).length=a.length:=λi hi=>by
        obtain ⟨cs',h1,h2,h3⟩:=hget i hi
        exact Ty.ofL_len h2
       have hcell:∀ i (hi:i<els.length) j (hj:j<(els[i]).length),∃ U,w.cell? ⟨ad.block,ad.off+i*a.length+j,none⟩=some U/\VS (· < w.heap.size) w (els[i][j]) U:=λi hi j hj=>by
        obtain ⟨cs',h1,h2,h3⟩:=hget i hi
        obtain ⟨_,hl1,hl2⟩:=World.cells?_some h1
        have hj':j<a.length:=by rw [<-hel i hi];exact hj
        obtain ⟨U,e1,e2⟩:=h3.2 j hj
        refine ⟨U,?_,e2⟩
        rw [<-e1,<-hl2 j hj',Bq0 hspot.1]
       refine ⟨[.sl false false a.length els],?_,CVS.one ?_⟩
       ·simp only [Ty.ofL,Ty.of]
        refine ⟨_,[],rfl,.inr ⟨els,rfl,by omega,λel hm'=>?_⟩,rfl⟩
        obtain ⟨i,hi,rfl⟩:=List.getElem_of_mem hm'
        obtain ⟨cs',h1,h2,h3⟩:=hget i hi
        exact h2
       ·have e:ad=⟨ad.block,ad.off,none⟩:=by cases ad;simp_all
        rw [e]
        refine .sl false els ad.block ad.off len cap a.length (λi j=>(w.cell? ⟨ad.block,ad.off+i*a.length+j,none⟩).getD undef) hels.symm hl hm (by simp) hspot.2 hel (λi hi j hj=>?_) (λi hi j hj=>?_)
        ·obtain ⟨U,e1,e2⟩:=hcell i hi j hj
         rw [e1];rfl
        ·obtain ⟨U,e1,e2⟩:=hcell i hi j hj
         rw [e1];exact e2
    ·cases h
   ·cases h
  ·rename_i fs ht
   split at h
   ·rename_i r hr
    split at h
    ·rename_i hc
     simp only [beq_iff_eq] at hc
     simp only [Option.some.injEq] at h;subst h
     obtain ⟨xs,m',_,_,hlen,hxs,hf⟩:=DataW.trod_struct ht hd
     obtain ⟨svs,h1,h2⟩:=GH (λt tys cs x=>Xa n t tys m' cs x) cs fs.toList 0 r hr (λi fl hi=>by
      have hi':fs[i]? = some fl:=by simpa using hi
      have:=hf i fl hi'
      have hlt:i<xs.length:=by rw [hxs];exact (Array.getElem?_eq_some_iff.1 hi').1
      rw [List.getElem?_eq_getElem hlt] at this
      exact ⟨_,this⟩)
     refine ⟨svs,h1,?_⟩
     rw [List.drop_zero,List.take_of_length_le (by omega)] at h2
     exact h2
    ·cases h
   ·cases h
  ·rename_i k e ht
   split at h
   ·rename_i a ha
    split at h
    ·rename_i hc
     simp only [Bool.and_eq_true,beq_iff_eq] at hc
     simp only [Option.some.injEq] at h;subst h
     obtain ⟨xs,m',_,_,hlen,hxs,hf⟩:=DataW.trod_array ht hd
     obtain ⟨svs,h1,h2⟩:=OP cs (λcs x=>Xa n e a m' cs x ha) hc.1 k 0 (λi _ hi=>by
      have:=hf i (by omega)
      rw [List.getElem?_eq_getElem (by omega)] at this
      exact ⟨_,this⟩)
     refine ⟨svs,h1,?_⟩
     rw [Nat.zero_mul,List.drop_zero,List.take_of_length_le (by omega)] at h2
     exact h2
    ·cases h
   ·cases h
  ·cases h
def Iu (P:Program) (t:Nat):Bool:=match P.underlying t with
 | some (.struct _)=>true
 | some (.array _ _)=>true
 | _=>false
def Nu (P:Program) (t:Nat) (v:PV):Prop:=∃ tys l,Bq P 20 t=some tys/\Ty.ofL tys l/\((Iu P t=true/\v = .agg (l.map .s))\/(Iu P t=false/\∃ x,l=[x]/\v = .s x))
def Gm (P:Program):List Nat->List PV->Prop
 | [],l=>l=[]
 | t::r,l=>∃ v q,l=v::q/\Nu P t v/\Gm P r q
theorem Nu.nms {P:Program} {t:Nat} {v:PV} (h:Nu P t v):v.nms=[]:=by
 obtain ⟨tys,l,_,_,h⟩:=h
 rcases h with ⟨_,rfl⟩ | ⟨_,x,_,rfl⟩
 ·simp only [PV.nms]
  rw [List.eq_nil_iff_forall_not_mem]
  intro c hc
  obtain ⟨j,hj,hc⟩:=B7.1 hc
  simp [PV.nms] at hc
 ·rfl
theorem Gm.nms {P:Program}:∀ {ts:List Nat} {l:List PV},Gm P ts l->B9 l=[]
 | [],l,h=>by simp only [Gm] at h;subst h;rfl
 | t::r,l,h=>by
  simp only [Gm] at h
  obtain ⟨v,q,rfl,h1,h2⟩:=h
  simp [B9,h1.nms,h2.nms]
section
variable {H : Type} {enc : TypeId × Value -> H} {P : Program} {w : World}
theorem By9 {v:Value} {r:Reach} {b:Nat} {t:Nat} (ha:Iu P t=false) (Ii:Value.okWide P w r b t v):∀ cs,v = .agg cs->False:=by
 rintro cs rfl
 simp only [Value.okWide,Cell.okWide] at Ii
 unfold Iu at ha
 split at Ii
 ·grind
 ·grind
 ·revert Ii
  cases hu:P.underlying t with
  | none=>simp [Cell.ok,hu]
  | some d=>cases d<;>simp [Cell.ok,hu]
theorem Bh3 {Γ:Ctx} {sh:Nat->Option Shp} {sp:Nat->Bool} {held:Bool} {r:Reach} {b b' t:Nat} {v:Value} {d:DataW H} {ps:List MemPlace} (hΓ:∀ g,g<w.heap.size->Γ.St g) (htys:(Bq P 20 t).isSome=true) (Ii:Value.okWide P w r b t v) (hd:DataW.Trod enc P w b' sp held t v d ps) :
  ∃ pv,Nu P t pv/\VP Γ sh w pv v:=by
 obtain ⟨tys,ht⟩:=Option.isSome_iff_exists.1 htys
 obtain ⟨m,hm⟩:=hd
 obtain ⟨svs,h1,h2⟩:=Xa 20 t tys m _ _ ht hm
 have lift:∀ {x:SV} {V:Value},VS (· < w.heap.size) w x V->VS Γ.St w x V:=λh=>h.mono (λ_ _=>rfl) hΓ
 cases ha:Iu P t with
 | true=>
  refine ⟨.agg (svs.map .s),⟨tys,svs,ht,h1,.inl ⟨ha,rfl⟩⟩,?_⟩
  have:∃ cs,v = .agg cs:=by
   unfold Iu at ha
   simp only [Value.okWide] at Ii
   grind
  obtain ⟨cs,rfl⟩:=this
  simp only [Value.cells] at h2
  refine VP.mk_agg (by simpa using h2.1) λj hj=>?_
  have hj':j<svs.length:=by simpa using hj
  obtain ⟨U,e,k⟩:=h2.2 j hj'
  exact ⟨U,by simpa using e,by rw [List.getElem_map];exact .s _ _ (lift k)⟩
 | false=>
  have hc:v.cells = #[v]:=by
   have:=By9 ha Ii
   cases v with
   | agg cs=>exact (this cs rfl).elim
   | _=>rfl
  rw [hc] at h2
  have hl:svs.length=1:=by have:=h2.1;simpa using this.symm
  obtain ⟨x,rfl⟩:∃ x,svs=[x]:=by
   match svs,hl with
   | [x],_=>exact ⟨x,rfl⟩
  obtain ⟨U,e,k⟩:=h2.2 0 (by simp)
  simp only [List.getElem?_cons_zero,Option.some.injEq] at e
  subst e
  exact ⟨.s x,⟨tys,[x],ht,h1,.inr ⟨ha,x,rfl,rfl⟩⟩,.s _ _ (lift k)⟩
theorem FT {Γ:Ctx} {sh:Nat->Option Shp} {sp:Nat->Bool} {held:Bool} {r:Reach} {b b':Nat} (hΓ:∀ g,g<w.heap.size->Γ.St g):∀ (ts:List Nat) (vs:List Value) (ds:List (DataW H)) (ps:List MemPlace),(∀ t∈ts,(Bq P 20 t).isSome=true)->(∀ (j:Nat) t v,ts[j]? = some t->vs[j]? = some v->Value.okWide P w r b t v)->DataW.TrodAll enc P w b' sp held ts vs ds ps->
  ∃ pvs,Gm P ts pvs/\vs.length=pvs.length/\ds.length=ts.length/\∀ j (h:j<pvs.length),∃ U,vs[j]? = some U/\VP Γ sh w (pvs[j]) U
 | [],vs,ds,ps,_,_,h=>by
  obtain ⟨rfl,rfl,_⟩:=trodAll_nil h
  exact ⟨[],rfl,rfl,rfl,λj hj=>by simp at hj⟩
 | t::ts,vs,ds,ps,htys,Ii,h=>by
  obtain ⟨v,vs',d,ds',p,q,rfl,rfl,rfl,h1,h2⟩:=trodAll_cons h
  obtain ⟨pv,k1,k2⟩:=Bh3 (Γ:=Γ) (sh:=sh) hΓ (htys t (by simp)) (Ii 0 t v rfl rfl) h1
  obtain ⟨pvs,g1,g2,g3,g4⟩:=FT (Γ:=Γ) (sh:=sh) hΓ ts vs' ds' q (λt ht=>htys t (by simp [ht])) (λj t v hj hv=>Ii (j+1) t v (by simpa using hj) (by simpa using hv)) h2
  refine ⟨pv::pvs,⟨pv,pvs,rfl,k1,g1⟩,by simp [g2],by simp [g3],λj hj=>?_⟩
  cases j with
  | zero=>exact ⟨v,rfl,k2⟩
  | succ j=>
   obtain ⟨U,e,k⟩:=g4 j (by simpa using hj)
   grind
theorem Yy (hl:laidOutB P=true) {w':World} {ts:List Nat} {vs:List Value} {ds:List (DataW H)} {ps:List MemPlace}:∀ {ts:List Nat} {vs:List Value} {ds:List (DataW H)} {ps:List MemPlace},(∀ t∈ts,P.readableRec t=true/\t<P.types.size)->DataW.TrodAll enc P w 0 (λ_=>true) true ts vs ds ps->(∀ x∈ps,w.sameAt w' x)->∀ sp:Nat->Bool,(∀ x∈ps,sp x.block=true)->
  DataW.TrodAll enc P w' 0 sp true ts vs ds ps
 | [],vs,ds,ps,_,h,_,sp,_=>by
  obtain ⟨rfl,rfl,rfl⟩:=trodAll_nil h
  exact trodAll_mk0
 | t::ts,vs,ds,ps,hr,h,hs,sp,hsp=>by
  obtain ⟨v,vs',d,ds',p,q,rfl,rfl,rfl,h1,h2⟩:=trodAll_cons h
  refine ⟨p,q,WideElems.Trod_stays hl (hr t (by simp)).1 (hr t (by simp)).2 h1 (λx hx=>hs x (by simp [hx])) (λx hx=>hsp x (by simp [hx])),Yy hl (w':=w') (ts:=ts) (vs:=vs') (ds:=ds') (ps:=q) (λt ht=>hr t (by simp [ht])) h2 (λx hx=>hs x (by simp [hx])) sp (λx hx=>hsp x (by simp [hx])),rfl⟩
theorem DG {f:Func} {s:ChangeSpec} {apart fresh handsOn again:Bool} {W W':World} {args:Array Value} {v:Value} {ds gs:List (DataW H)} {before pa pv:List MemPlace}
  (hW:DataW.Whole enc P f.params.toList s.vars apart W args.toList ds gs before)
  (hres:∀ (b:Nat) (sp:Nat->Bool) (hd:Bool),DataW.TrodAll enc P W' b sp hd f.resultTypes.toList (v.resultList f.resultTypes.size) (s.fn H (ds++gs)).results [])
  (hargs:∀ sp:Nat->Bool,(∀ p∈before,sp p.block=true)->DataW.TrodAll enc P W' 0 sp true f.params.toList args.toList (s.fn H (ds++gs)).args pa)
  (hvars:∀ sp:Nat->Bool,(∀ p∈before,sp p.block=true)->DataW.TrodVars enc P W' sp s.vars (s.fn H (ds++gs)).vars pv)
  (hps:before=pa++pv) (hb:Below W.heap.size W W')
  (hok:∀ (j:Nat) (t:TypeId) (r:Value),f.resultTypes[j]? = some t->(v.resultList f.resultTypes.size)[j]? = some r->Value.okWide P W' .any 0 t r) :
  s.post enc P f apart fresh handsOn again W args v W':=by
 have hold:∀ p∈before,(λb=>decide (b<W.heap.size)) p.block=true:=λp hp=>by simpa using hW.lt p hp
 refine ⟨ds,gs,before,[],pa,pv,hW,hres _ _ _,hargs _ hold,hvars _ hold,hb.frame _,λ_=>?_⟩
 have hlt:=hW.lt
 obtain ⟨_,_,_,_,_,hz,hn⟩:=hW
 refine ⟨hok,_,_,([]++pa)++pv,⟨[]++pa,pv,trodAll_append (hargs _ (λ_ _=>rfl)) (hres _ _ _),hvars _ (λ_ _=>rfl),rfl,?_,?_⟩,?_⟩
 ·intro b off hp
  have hp':MemPlace.cell b off∈before:=by rw [hps];simpa using hp
  rw [hb.frozen (hlt _ hp')]
  exact hz b off hp'
 ·intro ha
  have:=hn ha
  rw [hps] at this
  simpa using this
 ·intro p hp _
  rw [hps]
  simpa using hp
end
theorem Af4 {P:Program} {f:Nat} {Vs:Array Value} {w:World} {R:Value->World->Prop} (hrun:(callFunc f Vs).run P w = .ok (.enter f Vs) w) (h:L5 P ((callFunc f Vs).run P w) R):Calls P f Vs w λe w'=>∃ V,e = .returned V/\R V w':=by
 rw [hrun] at h
 have:=h none 1 { op:=.move (.const undef),dst:=some 0,guard:=none,type:=0,after:=#[],pos:=default } { tmps:=#[undef],defers:=[] } (λa' w'=>∃ V,a'.tmps[0]? = some V/\R V w') (λ_ _ _=>False) (λV w' hR=>⟨V,by simp [Act.put],hR⟩)
 rw [Oper.uponIn_enter] at this
 have h2:CallsIn Fence.wide 0 P f Vs w _:=this.2
 refine (callsIn_wide.1 h2).mono λe w' he=>?_
 cases e with
 | returned v=>
  obtain ⟨V,e1,e2⟩:=he
  simp [Act.put] at e1
  grind
 | panicked c=>exact he.elim
 | outgrown=>obtain ⟨_,_,h⟩:=he;exact h.elim
def noY:Yh Unit:=λ_ _=>none
theorem A91 {H:Type} {enc:TypeId × Value->H} {C:Cfg} {f tb:Nat} {fn:Func} {c:Code} {s:ChangeSpec} {apart fresh handsOn again:Bool} (hX:XOK C) (hO:Fp C) (hm:C.P.follows .mixedOrders=true) (hl:laidOutB C.P=true) (hfn:C.P.funcs[f]? = some fn) (hb:fn.body=some c) (hname:(fn.name == "runtime.NumGoroutine")=false)
  (hp:∀ t∈fn.params.toList,(C.P.readableRec t=true/\t<C.P.types.size)/\(Bq C.P 20 t).isSome=true) (hres:fn.resultTypes = #[tb]) (hbool:C.P.underlying tb=some .bool) (hvars:s.vars=[])
  (hspec:∀ ds:List (DataW H),ds.length=fn.params.toList.length->s.fn H ds = { results:=[.lit (.bool true)],args:=ds })
  (hev:∀ args,Gm C.P fn.params.toList args->∃ d Hc,evC C d Unit noY f args [] ()=some (.s (.bool true),Hc,()))
  (W:World) (hG:GOK C (· < W.heap.size) W) (base:Nat) (args:Array Value) (ds gs:List (DataW H)) (before:List MemPlace)
  (Ii:∀ (j:Nat) t v,fn.params[j]? = some t->args[j]? = some v->Value.okWide C.P W .any base t v)
  (hW:DataW.Whole enc C.P fn.params.toList s.vars apart W args.toList ds gs before) :
  Calls C.P f args W λe W'=>∃ v,e = .returned v/\s.post enc C.P fn apart fresh handsOn again W args v W':=by
 have hW':=hW
 obtain ⟨p,q,hA,hV,rfl,hfz,hnd⟩:=hW
 rw [hvars] at hV
 obtain ⟨rfl,rfl⟩:=trodVars_none hV
 let Γ:Ctx:={ St:=(· < W.heap.size),nm:=λ_=>none,yv:=.nilFunc,yv1:=rfl }
 obtain ⟨pvs,h1,h2,h3,h4⟩:=FT (Γ:=Γ) (sh:=A1 []) (λ_ h=>h) fn.params.toList args.toList ds p (λt ht=>(hp t ht).2) (λj t v hj hv=>Ii j t v (by simpa using hj) (by simpa using hv)) hA
 obtain ⟨d,Hc,hd⟩:=hev pvs h1
 have hS:=Fw hX hO hm d Unit I0 noY .nilFunc A44 A45 f pvs [] () _ Hc () hd Γ noΦ W args rfl (Gr (λ_=>rfl) (λ_ h=>h)) hG (λ_ h=>h) (λb g h=>by cases h)
  ⟨by rw [<-Array.length_toList];exact h2,λj hj=>by obtain ⟨U,e,k⟩:=h4 j hj;exact ⟨U,by simpa using e,k⟩⟩ (by rw [h1.nms];simp)
 refine (Af4 (Jc hfn hb hname) hS).mono ?_
 rintro e W' ⟨V,rfl,Γ',Φ',hs,hH,hv,_⟩
 have hV:=hv.inv_bool
 subst hV
 have hbel:Below W.heap.size W W':=⟨hs.os,hs.tape,hs.output,hs.size,λk hk=>hs.frame k hk (λb=>by simp [Γ]) (λx=>x)⟩
 simp only [List.append_nil] at hW'
 refine ⟨_,rfl,?_⟩
 have hsp:=hspec ds h3
 have hlt:=hW'.lt
 refine DG (pa:=p) (pv:=[]) hW' (λb sp hd=>?_) (λsp hsp'=>?_) (λsp _=>?_) (by simp) hbel ?_
 ·rw [List.append_nil,hsp,hres]
  exact trodAll_cons_mk (shut_bool hbool _) trodAll_mk0
 ·rw [List.append_nil,hsp]
  exact Yy hl (w:=W) (ts:=fn.params.toList) (vs:=args.toList) (ds:=ds) (ps:=p) (λt ht=>(hp t ht).1) hA (λx hx=>hbel.same (hlt x hx)) sp hsp'
 ·rw [List.append_nil,hsp,hvars]
  rfl
 ·exact ok_one hres rfl (okWide_bool_mk hbool _)
end
section
open Go
def A7 (P:Program) (G:GT) (g:Nat) (pf:List PV->Tr):Prop:=
 ∀ args ret Hc,G7 (pf args)=some (ret,Hc)->∀ C:Cfg,C.P=P->C.G=G->∀ Γ w Vs,(∀ b,Γ.nm b=none)->HR Γ [] w->GOK C Γ.St w->CR Γ (A1 []) w args Vs->
  L5 P ((callFunc g Vs).run P w) (T9 C I0 Γ [] w noΦ ret Hc ())
theorem Ey {C₀:Cfg} {g:Nat} {pf:List PV->Tr} (hX:XOK C₀) (hO:Fp C₀) (hm:C₀.P.follows .mixedOrders=true)
  (h:∀ args ret Hc,G7 (pf args)=some (ret,Hc)->B9 args=[]/\∃ d,evC C₀ d Unit noY g args [] ()=some (ret,Hc,())):A7 C₀.P C₀.G g pf:=by
 intro args ret Hc hpf C hP hGe Γ w Vs hnm hH hG hc
 obtain ⟨hna,d,hev⟩:=h args ret Hc hpf
 have hG0:GOK C₀ Γ.St w:=hG.congr hGe.symm
 refine (Fw hX hO hm d Unit I0 noY Γ.yv A44 A45 g args [] () ret Hc () hev Γ noΦ w Vs rfl hH hG0 (λ_ h=>h) (λb g h=>by rw [hnm] at h;cases h) hc (by rw [hna];simp)).mono ?_
 rintro V w' ⟨Γ1,Φ1,hs,hH1,hv,hvn,hi1,hd1⟩
 exact ⟨Γ1,Φ1,⟨hs.os,hs.tape,hs.output,hs.size,hs.sub,hs.stnew,hs.own,hs.foot,hs.frame,hs.yv,hs.len,λb hb=>by simp at hb⟩,hH1,hv,hvn,hi1,hd1⟩
def Tr.snap:Tr->Tr
 | .ret v H=>cond (v.snap H).nms.isEmpty (.ret (v.snap H) []) .fail
 | .need c t=>.need c t.snap
 | .split c a b=>.split c a.snap b.snap
 | .fail=>.fail
theorem Tr.snap_res:∀ {t:Tr} {v:PV} {H:List Blk},G7 t.snap=some (v,H)->∃ v' H',G7 t=some (v',H')/\v=v'.snap H'/\H=[]/\v.nms=[]
 | .ret v' H',v,H,h=>by
  simp only [Tr.snap] at h
  cases he:(v'.snap H').nms.isEmpty with
  | false=>rw [he] at h;cases h
  | true=>
   rw [he] at h
   simp only [cond_true,G7,Bn,Option.some.injEq,Prod.mk.injEq] at h
   obtain ⟨rfl,rfl⟩:=h
   exact ⟨v',H',rfl,rfl,rfl,List.isEmpty_iff.1 he⟩
 | .need c t,v,H,h=>by
  cases c with
  | true=>exact Tr.snap_res (t:=t) h
  | false=>cases h
 | .split c a b,v,H,h=>by
  cases c with
  | true=>exact Tr.snap_res (t:=a) h
  | false=>exact Tr.snap_res (t:=b) h
 | .fail,_,_,h=>by cases h
theorem A7.snap {P:Program} {G:GT} {g:Nat} {pf:List PV->Tr} (h:A7 P G g pf):A7 P G g (λargs=>(pf args).snap):=by
 intro args ret Hc hpf C hP hGe Γ w Vs hnm hH hG hc
 obtain ⟨ret',Hc',hpf',rfl,rfl,hnr⟩:=Tr.snap_res hpf
 refine (h args ret' Hc' hpf' C hP hGe Γ w Vs hnm hH hG hc).mono ?_
 rintro V w' ⟨Γ1,Φ1,hs,hH1,hv,hvn,hi1,hd1⟩
 let Γ2:Ctx:={ Γ1.all with nm:=λ_=>none }
 have hlt:∀ g,Γ2.St g->g<w'.heap.size:=λg hg=>by
  rcases hg with hg | ⟨b,hb⟩
  ·exact hH1.stlt g hg
  ·exact (hH1.lt b g hb).2.1
 refine ⟨Γ2,Φ1,⟨hs.os,hs.tape,hs.output,hs.size,λg hg=>.inl (hs.sub g hg),λg hg=>?_,λb g h=>by simp [Γ2] at h,hs.foot,hs.frame,hs.yv,Nat.le_refl _,λb hb=>by simp at hb⟩,
  Gr (λ_=>rfl) hlt,?_,by rw [hnr];simp,hi1,λb g h=>by simp [Γ2] at h⟩
 ·rcases hg with hg | ⟨b,hb⟩
  ·exact hs.stnew g hg
  ·rcases hs.own b g hb with ⟨h',_⟩ | h'
   all_goals grind
 ·exact VP.mono (Γ:=Γ1.all) (Γ':=Γ2) (w:=w') (w':=w') (sh:=A1 Hc') (ok:=λ_=>False) ⟨λ_ _=>rfl,λ_ h=>h,λ_ h=>h.elim,λ_ h=>h.elim,λ_ _ h=>h.elim,rfl⟩ (hv.snap hH1) (by rw [hnr];simp)
def TQ:List (Nat × (List PV->Tr))->Nat->Option (List PV->Tr)
 | [],_=>none
 | (g,pf)::r,n=>cond (Nat.beq n g) (some pf) (TQ r n)
def G8 (P:Program) (G:GT):List (Nat × (List PV->Tr))->Prop
 | []=>True
 | (g,pf)::r=>A7 P G g pf/\G8 P G r
theorem G8.x1 {C:Cfg} {l:List (Nat × (List PV->Tr))} (hl:C.X=TQ l) (h:G8 C.P C.G l):Ck2 C:=by
 intro g pf args ret Hc hg hpf Γ w Vs hnm hH hG hc
 rw [hl] at hg
 have key:∀ l:List (Nat × (List PV->Tr)),G8 C.P C.G l->TQ l g=some pf->A7 C.P C.G g pf:=by
  intro l
  induction l with
  | nil=>intro _ h;cases h
  | cons e r ih=>
   intro h1 h2
   obtain ⟨n,q⟩:=e
   simp only [TQ] at h2
   cases hb:Nat.beq g n with
   | true=>
    rw [hb] at h2
    simp only [cond_true,Option.some.injEq] at h2
    have:=Nat.eq_of_beq_eq_true hb
    subst this;subst h2
    exact h1.1
   | false=>
    rw [hb] at h2
    exact ih h1.2 h2
 exact key l h hg args ret Hc hpf C rfl rfl Γ w Vs hnm hH hG hc
theorem AF {C C':Cfg} (h:C.P=C'.P):Fe C=Fe C':=by
 funext s
 unfold Fe
 split
 ·simp only [Gx,Cfg.sh,h]
 ·rfl
 ·rfl
theorem Stp.congr {C C':Cfg} (h:C.P=C'.P) {Γ Γ':Ctx} {H H':List Blk} {w w':World} {Φ Φ':Nat->Prop} (s:Stp C Γ H w Φ Γ' H' w' Φ'):Stp C' Γ H w Φ Γ' H' w' Φ':=
 ⟨s.os,s.tape,s.output,s.size,s.sub,s.stnew,s.own,s.foot,s.frame,s.yv,s.len,λb hb hf=>s.keep b hb (by rw [AF h];exact hf)⟩
def Ls (P:Program) (G:GT) (g:Nat) (pf:List PV->List Blk->Tr):Prop:=
 ∀ C:Cfg,C.P=P->C.G=G->∀ (σ:Type) (I:σ->(Nat->Prop)->(Nat->Prop)->World->Prop) (yh:Yh σ) (yv:Value),HI I->VH P I yh yv->
  ∀ args H s ret Hc,G7 (pf args H)=some (ret,Hc)->∀ Γ Φ w Vs,Γ.yv=yv->HR Γ H w->GOK C Γ.St w->I s Γ.St Φ w->(∀ b g,Γ.nm b=some g->¬ Φ g)->CR Γ (A1 H) w args Vs->(∀ c∈B9 args,c<H.length)->
   L5 P ((callFunc g Vs).run P w) (T9 C I Γ H w Φ ret Hc s)
def DO (P:Program) (G:GT) (g:Nat) (pf:List PV->List Blk->Option (Bool × List (List PV))):Prop:=
 ∀ C:Cfg,C.P=P->C.G=G->∀ (σ:Type) (I:σ->(Nat->Prop)->(Nat->Prop)->World->Prop) (yh:Yh σ) (yv:Value),HI I->VH P I yh yv->
  ∀ args H L s s',pf args H=some (true,L)->H.all Jl=true->N7 yh L s=some s'->∀ Γ Φ w Vs,Γ.yv=yv->HR Γ H w->GOK C Γ.St w->I s Γ.St Φ w->(∀ b g,Γ.nm b=some g->¬ Φ g)->CR Γ (A1 H) w args Vs->(∀ c∈B9 args,c<H.length)->
   L5 P ((callFunc g Vs).run P w) (T9 C I Γ H w Φ (.tup []) (H.map Fs) s')
theorem A83 {C C₀:Cfg} {σ:Type} {I:σ->(Nat->Prop)->(Nat->Prop)->World->Prop} {Γ:Ctx} {H Hc:List Blk} {w w':World} {Φ:Nat->Prop} {s':σ} {V:Value} (hP:C₀.P=C.P) (hb:H.all Jl=true) (hH:HR Γ H w) (h:T9 C₀ I Γ H w Φ (.tup []) Hc s' V w'):T9 C I Γ H w Φ (.tup []) (H.map Fs) s' V w':=by
 obtain ⟨Γ1,Φ1,hs,k1,k2,k3,k4,k5⟩:=h
 have hn:∀ b g,(if b<H.length then Γ1.nm b else none)=some g->b<H.length/\Γ1.nm b=some g:=λb g h=>by grind
 have hlen:(H.map Fs).length=H.length:=List.length_map _
 refine ⟨{ Γ1 with nm:=λb=>if b<H.length then Γ1.nm b else none },Φ1,⟨hs.os,hs.tape,hs.output,hs.size,hs.sub,hs.stnew,λb g hg=>hs.own b g (hn b g hg).2,hs.foot,hs.frame,hs.yv,by rw [hlen];exact Nat.le_refl _,λb hbl hf=>?_⟩,
  ⟨λb b' g h1 h2=>k1.inj b b' g (hn b g h1).2 (hn b' g h2).2,λb g hg=>?_,k1.stlt,λb hbl c hc=>?_,λb hbl=>?_⟩,?_,by simp [PV.nms,B9],k4,λb g hg=>k5 b g (hn b g hg).2⟩
 ·obtain ⟨m1,m2,m3⟩:=hs.keep b hbl (by rw [AF hP];exact hf)
  refine ⟨by simp only;rw [if_pos hbl];exact m1,?_,m3⟩
  simp only [A1,List.getElem?_map]
  cases H[b]? with
  | none=>rfl
  | some x=>exact congrArg some (ED x)
 ·obtain ⟨q1,q2⟩:=hn b g hg
  have:=k1.lt b g q2
  grind
 ·rw [List.getElem_map,EC] at hc
  simp at hc
 ·rw [hlen] at hbl
  rw [List.getElem_map]
  have hbx:=List.all_eq_true.1 hb _ (List.getElem_mem hbl)
  have hB:=hH.blk b hbl
  cases hx:H[b] with
  | box cells=>
   rw [hx] at hB
   obtain ⟨g,cur,e,h1,h2,h3,_⟩:=hB
   obtain ⟨m1,m2,m3⟩:=hs.keep b hbl (by simp only [A1,List.getElem?_eq_getElem hbl,hx];exact trivial)
   have hl2:b<Hc.length:=Nat.lt_of_lt_of_le hbl hs.len
   have hB2:=k1.blk b hl2
   have hshp:(Hc[b]).shp = .box:=by
    simp only [A1,List.getElem?_eq_getElem hbl,List.getElem?_eq_getElem hl2,Option.map_some,Option.some.injEq] at m2
    rw [m2,hx];rfl
   cases hy:Hc[b] with
   | box cells'=>
    rw [hy] at hB2
    obtain ⟨g',cur',e',h1',h2',h3',h4'⟩:=hB2
    have hgg:g'=g:=by grind
    subst hgg
    have hsz:=m3 g' h1
    simp only [World.shape?,h2,h2',Option.some.injEq,Prod.mk.injEq] at hsz
    refine ⟨g',cur',e',by simp only;rw [if_pos hbl];exact h1',h2',by rw [hsz.2,h3];simp,λj hj=>?_⟩
    have hj':j<cur'.size:=by rw [hsz.2,h3];simpa using hj
    exact ⟨cur'[j],Array.getElem?_eq_getElem hj',by rw [List.getElem_map];exact .bad _⟩
   | arr a b c d=>rw [hy] at hshp;cases hshp
   | iter a b=>rw [hy] at hshp;cases hshp
   | dead=>rw [hy] at hshp;cases hshp
  | arr a b c d=>rw [hx] at hbx;cases hbx
  | iter a b=>rw [hx] at hbx;cases hbx
  | dead=>rw [hx] at hbx;cases hbx
 ·obtain ⟨A,rfl,hA,hcA⟩:=k2.inv_tup
  exact VP.mk_tup hA λj hj=>by simp at hj
theorem Kc {C₀:Cfg} {g:Nat} {pf:List PV->List Blk->Option (Bool × List (List PV))} (hX:XOK C₀) (hO:Fp C₀) (hm:C₀.P.follows .mixedOrders=true)
  (h:∀ args H L,pf args H=some (true,L)->∀ (σ:Type) (yh:Yh σ) (s s':σ),N7 yh L s=some s'->∃ d Hc,evC C₀ d σ yh g args H s=some (.tup [],Hc,s')):DO C₀.P C₀.G g pf:=by
 intro C hP hG σ I yh yv hI hy args H L s s' hpf hb hrun Γ Φ w Vs hyv hH hg hi hdis hc hn
 obtain ⟨d,Hc,hev⟩:=h args H L hpf σ yh s s' hrun
 exact (Fw hX hO hm d σ I yh yv hI hy g args H s _ Hc s' hev Γ Φ w Vs hyv hH (hg.congr hG.symm) hi hdis hc hn).mono λV w' hr=>A83 hP.symm hb hH hr
def Kf {α:Type}:List (Nat × α)->Nat->Option α
 | [],_=>none
 | (g,pf)::r,n=>cond (Nat.beq n g) (some pf) (Kf r n)
theorem CH {α:Type}:∀ {l:List (Nat × α)} {g:Nat} {pf:α},Kf l g=some pf->(g,pf)∈l
 | [],_,_,h=>by cases h
 | (n,q)::r,g,pf,h=>by
  simp only [Kf] at h
  cases hb:Nat.beq g n with
  | true=>
   simp_all
  | false=>
   rw [hb] at h
   exact List.mem_cons_of_mem _ (CH h)
def It (P:Program) (G:GT):List (Nat × (List PV->List Blk->Tr))->Prop
 | []=>True
 | (g,pf)::r=>Ls P G g pf/\It P G r
def Il (P:Program) (G:GT):List (Nat × (List PV->List Blk->Option (Bool × List (List PV))))->Prop
 | []=>True
 | (g,pf)::r=>DO P G g pf/\Il P G r
theorem It.mem {P:Program} {G:GT}:∀ {l:List (Nat × (List PV->List Blk->Tr))} {g:Nat} {pf:List PV->List Blk->Tr},It P G l->(g,pf)∈l->Ls P G g pf
 | [],_,_,_,hm=>by simp at hm
 | (n,q)::r,g,pf,h,hm=>by
  rcases List.mem_cons.1 hm with e | hm
  ·cases e;exact h.1
  ·exact It.mem h.2 hm
theorem Il.mem {P:Program} {G:GT}:∀ {l:List (Nat × (List PV->List Blk->Option (Bool × List (List PV))))} {g:Nat} {pf:List PV->List Blk->Option (Bool × List (List PV))},Il P G l->(g,pf)∈l->DO P G g pf
 | [],_,_,_,hm=>by simp at hm
 | (n,q)::r,g,pf,h,hm=>by
  rcases List.mem_cons.1 hm with e | hm
  ·cases e;exact h.1
  ·exact Il.mem h.2 hm
theorem It.ok {C:Cfg} {l:List (Nat × (List PV->List Blk->Tr))} (hl:C.Y=Kf l) (h:It C.P C.G l):X2 C (clY C):=by
 intro σ I yh yv hI hy g args H s ret Hc s' hcl Γ Φ w Vs hyv hH hg hi hd hc hn
 simp only [clY,hl] at hcl
 split at hcl
 ·rename_i pf hpf
  split at hcl
  ·rename_i r' h' hr
   simp only [Option.some.injEq,Prod.mk.injEq] at hcl
   obtain ⟨rfl,rfl,rfl⟩:=hcl
   exact h.mem (CH hpf) C rfl rfl σ I yh yv hI hy args H s _ _ hr Γ Φ w Vs hyv hH hg hi hd hc hn
  grind
 ·cases hcl
theorem Il.ok {C:Cfg} {l:List (Nat × (List PV->List Blk->Option (Bool × List (List PV))))} (hl:C.S=Kf l) (h:Il C.P C.G l):X2 C (clS C):=by
 intro σ I yh yv hI hy g args H s ret Hc s' hcl Γ Φ w Vs hyv hH hg hi hd hc hn
 simp only [clS,hl] at hcl
 split at hcl
 ·rename_i pf hpf
  split at hcl
  ·rename_i hb
   split at hcl
   ·rename_i L hL
    split at hcl
    ·rename_i s2 hr
     simp only [Option.some.injEq,Prod.mk.injEq] at hcl
     obtain ⟨rfl,rfl,rfl⟩:=hcl
     exact h.mem (CH hpf) C rfl rfl σ I yh yv hI hy args H L s _ hL hb hr Γ Φ w Vs hyv hH hg hi hd hc hn
    grind
   grind
  grind
 ·cases hcl
theorem Fo {C:Cfg} {lx:List (Nat × (List PV->Tr))} {ly:List (Nat × (List PV->List Blk->Tr))} {ls:List (Nat × (List PV->List Blk->Option (Bool × List (List PV))))} (h1:C.X=TQ lx) (h2:C.Y=Kf ly) (h3:C.S=Kf ls) (x:G8 C.P C.G lx) (y:It C.P C.G ly) (s:Il C.P C.G ls) (h4:C.Z=Kf []:=by rfl):XOK C:=
 ⟨G8.x1 h1 x,It.ok h2 y,Il.ok h3 s,λg pf h=>by rw [h4] at h;cases h⟩
theorem G8.ok {C:Cfg} {l:List (Nat × (List PV->Tr))} (hl:C.X=TQ l) (h:G8 C.P C.G l) (h2:C.Y=Kf []:=by rfl) (h3:C.S=Kf []:=by rfl) (h4:C.Z=Kf []:=by rfl):XOK C:=
 Fo hl h2 h3 h trivial trivial h4
def okL:List Nat->Nat->Bool
 | [],_=>false
 | a::r,n=>Nat.beq n a || okL r n
def ZS (C:Cfg) (l:List Nat):Bool:=l.all λf=>match C.P.funcs[f]? with
 | some fn=>match fn.body with
  | some c=>A90 C c && !(fn.name == "runtime.NumGoroutine")
  | none=>true
 | none=>true
theorem D4 {C:Cfg} {l:List Nat} (hl:C.okf=okL l) (h:ZS C l=true):Fp C:=by
 intro f fn c hok hf hb
 have key:∀ l:List Nat,okL l f=true->f∈l:=by
  intro l
  induction l with
  | nil=>intro h;cases h
  | cons a r ih=>
   intro h
   simp only [okL,Bool.or_eq_true] at h
   rcases h with h | h
   all_goals simp_all
 have hm:f∈l:=key l (by rw [<-hl];exact hok)
 simp only [ZS,List.all_eq_true] at h
 grind
def cd:List Nat->Code->Code
 | [],c=>c
 | 0::p,.seq a _=>cd p a
 | 1::p,.seq _ b=>cd p b
 | 0::p,.cond _ a _=>cd p a
 | 1::p,.cond _ _ b=>cd p b
 | 0::p,.block _ a=>cd p a
 | 0::p,.loop a=>cd p a
 | 0::p,.scope a=>cd p a
 | 0::p,.rangeFunc _ _ a _=>cd p a
 | 1::p,.rangeFunc _ _ _ b=>cd p b
 | _,_=>.skip
def N4:List Nat->Code->Code->Code
 | [],b,_=>b
 | 0::p,b,.seq x y=>.seq (N4 p b x) y
 | 1::p,b,.seq x y=>.seq x (N4 p b y)
 | 0::p,b,.cond c x y=>.cond c (N4 p b x) y
 | 1::p,b,.cond c x y=>.cond c x (N4 p b y)
 | 0::p,b,.block id x=>.block id (N4 p b x)
 | 0::p,b,.loop x=>.loop (N4 p b x)
 | 0::p,b,.scope x=>.scope (N4 p b x)
 | 0::p,b,.rangeFunc g ps x y=>.rangeFunc g ps (N4 p b x) y
 | 1::p,b,.rangeFunc g ps x y=>.rangeFunc g ps x (N4 p b y)
 | _,_,c=>c
def D0 (f:Func):Code:=f.body.getD .skip
section
variable {σ R : Type}
def bd (C:Cfg) (cl:D3) (yh:Yh σ) (c:Code):St σ->(Out->St σ->Option R)->Option R:=λst k=>A9 C cl yh c st k
def I5 (C:Cfg) (cl:D3) (yh:Yh σ) (b:Code) (k:Out->St σ->Option R):Out->St σ->Option R:=λo st'=>match o with
 | .normal=>A9 C cl yh b st' k
 | o=>k o st'
def H7 (id:Nat) (k:Out->St σ->Option R):Out->St σ->Option R:=λo st'=>match o with
 | .exit j=>if j=id then k .normal st' else k (.exit j) st'
 | o=>k o st'
def G5 (C:Cfg) (fn:Func):Out->St σ->Option (PV × List Blk × σ):=λo st=>match o with
 | .normal=>We C st.sl st.hp fn.results.toList λvs=>some (Y0 vs,st.hp,st.s)
 | .ret=>We C st.sl st.hp fn.results.toList λvs=>some (Y0 vs,st.hp,st.s)
 | _=>none
def lpK (L:Nat) (ds:Option (List Nat)) (body:St σ->(Out->St σ->Option R)->Option R) (n:Nat) (k:Out->St σ->Option R):Out->St σ->Option R:=λo st'=>match o with
 | .normal=>F0 L ds body n (Gz ds (R7 L st')) k
 | o=>k o (Gz ds st')
end
theorem Cb6 {C:Cfg} {d f:Nat} {fn:Func} {σ:Type} {yh:Yh σ} {args:List PV} {H:List Blk} {s:σ} (h2:C.P.funcs[f]? = some fn) (h1:C.okf f=true) (h3:fn.body=some (D0 fn)) :
  evC C (d+1) σ yh f args H s=A9 C (evC C d) yh (D0 fn) { sl:=args++List.replicate (fn.ntmps-args.length) (.tup []),hp:=H,s:=s } (G5 C fn):=by
 simp only [evC,h1,h2]
 split
 ·rename_i c hc
  rw [hc] at h3
  simp only [Option.some.injEq] at h3
  rw [<-h3]
  rfl
 ·rename_i hc
  rw [hc] at h3
  cases h3
theorem evE {C:Cfg} {d f:Nat} {fn:Func} {σ:Type} {yh:Yh σ} {args:List PV} {H:List Blk} {s:σ} (h:(C.P.funcs[f]?,C.okf f,fn.body)=(some fn,true,some (D0 fn))) :
  evC C (d+1) σ yh f args H s=A9 C (evC C d) yh (D0 fn) { sl:=args++List.replicate (fn.ntmps-args.length) (.tup []),hp:=H,s:=s } (G5 C fn):=by
 simp only [Prod.mk.injEq] at h
 exact Cb6 h.1 h.2.1 h.2.2
def Fd:List Nat->List Blk->List Blk
 | [],H=>H
 | i::r,H=>Fd r (H.set i .dead)
def XD (idx:List Nat) (ret:PV) (H:List Blk):Bool:=idx.all λi=>!(ret.nms.contains i)&&(Fd idx H).all λb=>!(b.nms.contains i)
theorem Uk:∀ (idx:List Nat) (H:List Blk),(Fd idx H).length=H.length/\∀ i (h:i<(Fd idx H).length) (h':i<H.length),(i∈idx/\(Fd idx H)[i] = .dead)\/(i∉idx/\(Fd idx H)[i]=H[i])
 | [],H=>⟨rfl,λi h h'=>.inr ⟨by simp,rfl⟩⟩
 | a::r,H=>by
  obtain ⟨h1,h2⟩:=Uk r (H.set a .dead)
  simp only [Fd]
  grind
theorem T9.dead {C:Cfg} {Γ:Ctx} {w w':World} {ret:PV} {Hc:List Blk} {V:Value} {idx:List Nat} (h:T9 C I0 Γ [] w noΦ ret Hc () V w') (hok:XD idx ret Hc=true):T9 C I0 Γ [] w noΦ ret (Fd idx Hc) () V w':=by
 obtain ⟨Γ1,Φ1,hs,hH1,hv,hvn,hi1,hd1⟩:=h
 obtain ⟨hl,hsp⟩:=Uk idx Hc
 simp only [XD,List.all_eq_true,Bool.and_eq_true,Bool.not_eq_true',List.contains_iff_mem,<-Bool.not_eq_true] at hok
 let Γ2:Ctx:={ Γ1 with nm:=λb=>if b∈idx then none else Γ1.nm b }
 have hnm:∀ b g,Γ2.nm b=some g->b∉idx/\Γ1.nm b=some g:=λb g h=>by
  simp only [Γ2] at h
  split at h
  ·cases h
  ·exact ⟨‹_›,h⟩
 have M:T3 Γ1 (A1 Hc) w' Γ2 (A1 (Fd idx Hc)) w' (·∉idx):=⟨λ_ _=>rfl,λ_ h=>h,λb hb=>by simp only [Γ2];rw [if_neg hb],λb hb=>by
  simp only [A1]
  by_cases hlt:b<Hc.length
  ·rcases hsp b (by omega) hlt with ⟨q,_⟩ | ⟨_,q⟩
   ·exact absurd q hb
   ·rw [List.getElem?_eq_getElem (by omega),List.getElem?_eq_getElem hlt,q]
  ·rw [List.getElem?_eq_none (by omega),List.getElem?_eq_none (by omega)],λ_ _ _ _=>rfl,rfl⟩
 refine ⟨Γ2,Φ1,⟨hs.os,hs.tape,hs.output,hs.size,hs.sub,hs.stnew,λb g h=>hs.own b g (hnm b g h).2,hs.foot,hs.frame,hs.yv,Nat.zero_le _,λb hb=>by simp at hb⟩,
  ⟨λb b' g h1 h2=>hH1.inj b b' g (hnm b g h1).2 (hnm b' g h2).2,λb g h=>by have:=hH1.lt b g (hnm b g h).2;rw [hl];exact this,hH1.stlt,λb hb c hc=>?_,λb hb=>?_⟩,
  hv.mono M (λb hb hi=>by have:=(hok b hi).1;exact this hb),λc hc=>by rw [hl];exact hvn c hc,hi1,λb g h=>hd1 b g (hnm b g h).2⟩
 ·have hlt:b<Hc.length:=by omega
  rcases hsp b hb hlt with ⟨_,q⟩ | ⟨_,q⟩
  ·rw [q] at hc;simp [Blk.nms] at hc
  ·rw [q] at hc;rw [hl];exact hH1.nms b hlt c hc
 ·have hlt:b<Hc.length:=by omega
  rcases hsp b hb hlt with ⟨_,q⟩ | ⟨q0,q⟩
  ·rw [q];trivial
  ·rw [q]
   refine (hH1.blk b hlt).mono M (M.nm b q0) (λ_ _=>rfl) (λc hc hi=>?_)
   have:=(hok c hi).2 _ (List.getElem_mem hb)
   rw [q] at this
   exact this hc
theorem T1 {C₀:Cfg} {g:Nat} {pf:List PV->Tr} (hX:XOK C₀) (hO:Fp C₀) (hm:C₀.P.follows .mixedOrders=true)
  (h:∀ args ret Hc,G7 (pf args)=some (ret,Hc)->B9 args=[]/\∃ d H0 idx,evC C₀ d Unit noY g args [] ()=some (ret,H0,())/\XD idx ret H0=true/\Fd idx H0=Hc):A7 C₀.P C₀.G g pf:=by
 intro args ret Hc hpf C hP hGe Γ w Vs hnm hH hG hc
 obtain ⟨hna,d,H0,idx,hev,hd,rfl⟩:=h args ret Hc hpf
 have h0:=Ey (C₀:=C₀) (g:=g) (pf:=λa=>match G7 (pf a) with | some _=>(match evC C₀ d Unit noY g a [] () with | some (r,H,_)=>cond (B9 a).isEmpty (.ret r H) .fail | none=>.fail) | none=>.fail) hX hO hm (λa r H hr=>by
  split at hr
  ·split at hr
   ·rename_i r' H' _ he
    cases hn:(B9 a).isEmpty with
    | true=>
     rw [hn] at hr
     simp only [cond_true,G7,Bn,Option.some.injEq,Prod.mk.injEq] at hr
     grind
    | false=>rw [hn] at hr;cases hr
   ·cases hr
  ·cases hr)
 refine (h0 args ret H0 ?_ C hP hGe Γ w Vs hnm hH hG hc).mono λV w' hR=>hR.dead hd
 dsimp only
 rw [hpf]
 dsimp only
 rw [hev]
 dsimp only
 rw [hna]
 rfl
theorem NQ {C₀:Cfg} {g:Nat} {pf:List PV->Tr} (hX:XOK C₀) (hO:Fp C₀) (hm:C₀.P.follows .mixedOrders=true)
  (h:∀ args ret Hc,G7 (pf args)=some (ret,Hc)->B9 args=[]/\Hc=[]/\ret.nms=[]/\∃ d ret' H0,evC C₀ d Unit noY g args [] ()=some (ret',H0,())/\ret'.snap H0=ret):A7 C₀.P C₀.G g pf:=by
 intro args ret Hc hpf C hP hGe Γ w Vs hnm hH hG hc
 obtain ⟨hna,rfl,hnr,d,ret',H0,hev,rfl⟩:=h args ret Hc hpf
 have h0:=Ey (C₀:=C₀) (g:=g) (pf:=λa=>match evC C₀ d Unit noY g a [] () with | some (r,H,_)=>cond (B9 a).isEmpty (.ret r H) .fail | none=>.fail) hX hO hm (λa r H hr=>by
  split at hr
  ·rename_i r' H' _ he
   cases hn:(B9 a).isEmpty with
   | true=>
    rw [hn] at hr
    simp only [cond_true,G7,Bn,Option.some.injEq,Prod.mk.injEq] at hr
    grind
   | false=>rw [hn] at hr;cases hr
  ·cases hr)
 refine h0.snap args (ret'.snap H0) [] ?_ C hP hGe Γ w Vs hnm hH hG hc
 dsimp only
 rw [hev]
 dsimp only
 rw [hna]
 simp only [List.isEmpty_nil,cond_true,Tr.snap,hnr]
 rfl
section
variable {σ R : Type} {C : Cfg} {cl : D3} {yh : Yh σ} {c a b : Code} {st : St σ} {k : Out -> St σ -> Option R} {id : Nat}
theorem A0 {b:Bool} {x y x' y':Option R} (hx:x=x') (hy:y=y'):cond b x y=cond b x' y':=by rw [hx,hy]
end
def Bh4 {α:Type} (z:α) (f:Nat->α->α):Nat->α
 | 0=>z
 | n+1=>f n (Bh4 z f n)
def A3 {α:Type}:List (Nat × α)->Nat->Option α
 | [],_=>none
 | (a,l)::r,n=>cond (Nat.beq n a) (some l) (A3 r n)
def bds (n:Nat):List PV:=List.replicate n .bad
def tps (n:Nat):List PV:=List.replicate n (.tup [])
def gp:List (Nat × PV)->Nat->List PV
 | [],n=>bds n
 | (m,v)::r,n=>bds m++v::gp r n
abbrev LL:=List (List SV)
abbrev By:=List UInt8
def A4 (n:Int):Int:=IntKind.wrap .i64 n
def Cg6 (n:Int):Int:=IntKind.wrap .u64 n
def Bm2 (n:Int):Int:=IntKind.wrap .u32 n
def Qz (n:Int):Int:=IntKind.wrap .u16 n
def wu8 (n:Int):Int:=IntKind.wrap .u8 n
def VO (k:IntKind) (a b:Int):Int:=k.wrap (BitVec.ofInt k.bits a &&& BitVec.ofInt k.bits b).toNat
def bOr (k:IntKind) (a b:Int):Int:=k.wrap (BitVec.ofInt k.bits a ||| BitVec.ofInt k.bits b).toNat
def Qf (k:IntKind) (a b:Int):Int:=k.wrap (a*2 ^ min b.toNat k.bits)
def DI (k:IntKind) (a b:Int):Int:=a.fdiv (2 ^ min b.toNat k.bits)
def inR (n:Int) (m:Nat):Bool:=decide (0<=n)&&decide (n<m)
def DL:TI:=⟨true,false,[.int .i64]⟩
def Qq:TI:=⟨true,false,[.str]⟩
def okE (t:TI) (l:LL) (i o:Nat):Bool:=decide (i<l.length)&&okS t (l.getD i []) o
def gC (l:LL) (i j:Nat):SV:=(l.getD i []).getD j .nilp
def gE (l:LL) (i j:Nat):Int:=(gC l i j).gI
def gX (l:LL) (i j:Nat):By:=(gC l i j).gS
def bAt (s:By) (n:Int):Int:=((s.getD n.toNat 0).toNat:Int)
def L3 (l h:Int) (n:Nat):Bool:=decide (0<=l)&&decide (l<=h)&&decide (h<=n)
def cut {α:Type} (s:List α) (l h:Int):List α:=(s.take h.toNat).drop l.toNat
def Co0:Code->Bool | .rangeFunc _ _ _ _=>true | _=>false
def rgX:Code->Operand | .rangeFunc x _ _ _=>x | _=>.tmp 0
def rgP:Code->Array Tmp | .rangeFunc _ p _ _=>p | _=>#[]
theorem KJ:∀ (p:List Nat),cd p .skip = .skip
 | []=>rfl
 | 0::_=>rfl
 | 1::_=>rfl
 | (_+2)::_=>rfl
theorem Cz:∀ (p q:List Nat) (c:Code),cd (p++q) c=cd q (cd p c)
 | [],q,c=>rfl
 | i::p,q,c=>by
  rw [List.cons_append]
  match i,c with
  | 0,.seq a b=>exact Cz p q a
  | 1,.seq a b=>exact Cz p q b
  | 0,.cond _ a b=>exact Cz p q a
  | 1,.cond _ a b=>exact Cz p q b
  | 0,.block _ a=>exact Cz p q a
  | 0,.loop a=>exact Cz p q a
  | 0,.scope a=>exact Cz p q a
  | 0,.rangeFunc _ _ a b=>exact Cz p q a
  | 1,.rangeFunc _ _ a b=>exact Cz p q b
  | 0,.skip | 0,.region _ _ _ | 0,.exit _ | 0,.label _ | 0,.goto _ | 0,.ret | 0,.refuse _=>exact (KJ q).symm
  | 1,.skip | 1,.region _ _ _ | 1,.exit _ | 1,.scope _ | 1,.label _ | 1,.goto _ | 1,.ret | 1,.refuse _ | 1,.block _ _ | 1,.loop _=>exact (KJ q).symm
  | _+2,.skip | _+2,.region _ _ _ | _+2,.exit _ | _+2,.scope _ | _+2,.label _ | _+2,.goto _ | _+2,.ret | _+2,.refuse _ | _+2,.block _ _ | _+2,.loop _ | _+2,.seq _ _ | _+2,.cond _ _ _ | _+2,.rangeFunc _ _ _ _=>exact (KJ q).symm
section
variable {σ R : Type} {C : Cfg} {cl : D3} {yh : Yh σ} {B : Code} {st : St σ} {k : Out -> St σ -> Option R}
theorem Ba4 (p:List Nat) (h:Co0 (cd p B)=true):A9 C cl yh (cd p B) st k=Nk C cl (opnd C st.sl (rgX (cd p B))) st (λsl0=>Fh (rgP (cd p B)) sl0 (bd C cl yh (cd (p++[0]) B)) (bd C cl yh (cd (p++[1]) B))) (λsl0=>Q4 (rgP (cd p B)) sl0 (bd C cl yh (cd (p++[0]) B)) (bd C cl yh (cd (p++[1]) B))) k:=by
 rw [Cz,Cz]
 cases hc:cd p B<;>rw [hc] at h<;>first | rfl | cases h
theorem Nh {c:Bool} {x y:Option R} (h:x=y):need c x=cond c y none:=by rw [h];rfl
end
abbrev pS (l:List UInt8):PV:=.s (.str l)
abbrev pB (b:Bool):PV:=.s (.bool b)
abbrev pI (n:Int):PV:=.s (.int .i64 n)
abbrev p8 (n:Int):PV:=.s (.int .u8 n)
abbrev p16 (n:Int):PV:=.s (.int .u16 n)
abbrev p32 (n:Int):PV:=.s (.int .u32 n)
abbrev p64 (n:Int):PV:=.s (.int .u64 n)
abbrev vl {α β:Type} (e:α) (f:α->β):β:=f e
theorem A5 {α R:Type} {e:α} {f g:α->Option R} (h:∀ x,f x=g x):vl e f=vl e g:=h e
def N0 (m n:Nat):Bool:=decide (m+n<4611686018427387904)
theorem fx1 {A R:Type} {f g:A->R} (h0:∀ a,f a=g a):f=g:=funext h0
theorem fx2 {A B R:Type} {f g:A->B->R} (h0:∀ a b,f a b=g a b):f=g:=funext λa=>fx1 (h0 a)
theorem fx3 {A B C R:Type} {f g:A->B->C->R} (h0:∀ a b c,f a b c=g a b c):f=g:=funext λa=>fx2 (h0 a)
theorem fx4 {A B C D R:Type} {f g:A->B->C->D->R} (h0:∀ a b c d,f a b c d=g a b c d):f=g:=funext λa=>fx3 (h0 a)
theorem fx5 {A B C D E R:Type} {f g:A->B->C->D->E->R} (h0:∀ a b c d e,f a b c d e=g a b c d e):f=g:=funext λa=>fx4 (h0 a)
theorem fx6 {A B C D E H R:Type} {f g:A->B->C->D->E->H->R} (h0:∀ a b c d e h,f a b c d e h=g a b c d e h):f=g:=funext λa=>fx5 (h0 a)
theorem fx7 {A B C D E H I R:Type} {f g:A->B->C->D->E->H->I->R} (h0:∀ a b c d e h i,f a b c d e h i=g a b c d e h i):f=g:=funext λa=>fx6 (h0 a)
theorem fx8 {A B C D E H I J R:Type} {f g:A->B->C->D->E->H->I->J->R} (h0:∀ a b c d e h i j,f a b c d e h i j=g a b c d e h i j):f=g:=funext λa=>fx7 (h0 a)
theorem fx9 {A B C D E H I J K R:Type} {f g:A->B->C->D->E->H->I->J->K->R} (h0:∀ a b c d e h i j k,f a b c d e h i j k=g a b c d e h i j k):f=g:=funext λa=>fx8 (h0 a)
theorem Cn8 {A B C D E H I J K L R:Type} {f g:A->B->C->D->E->H->I->J->K->L->R} (h0:∀ a b c d e h i j k l,f a b c d e h i j k l=g a b c d e h i j k l):f=g:=funext λa=>fx9 (h0 a)
def B12 {α β:Type} (z:α) (f:β->List β->α->α):List β->α
 | []=>z
 | x::xs=>f x xs (B12 z f xs)
def Vy (n:Nat):PV->PV
 | .s (.sl z t k els)=>if n=0 then .s (.sl z t k els) else if k=n then .s (.sl z t k els) else .s (.sl z t (cond z n k) els)
 | v=>v
def Oo:List Nat->List PV->List PV
 | n::r,v::l=>Vy n v::Oo r l
 | _,l=>l
def Cb7 (szs:List Nat):PV->PV
 | .agg l=>.agg (Oo szs l)
 | v=>Vy (szs.headD 0) v
def C1:List (List Nat)->List PV->List PV
 | s::r,v::l=>Cb7 s v::C1 r l
 | _,l=>l
section
variable {Γ : Ctx} {sh : Nat -> Option Shp} {w : World}
theorem Wr {n:Nat} {v:PV} {V:Value} (h:VP Γ sh w v V):VP Γ sh w (Vy n v) V:=by
 unfold Vy
 split
 ·rename_i z t k els
  split
  ·exact h
  ·split
   ·exact h
   ·cases z with
    | false=>exact h
    | true=>
     have hs:=h.inv_s
     cases hs with
     | nil=>exact .s _ _ (.nil _ _)
 ·exact h
theorem Oq:∀ (szs:List Nat) (l:List PV),(Oo szs l).length=l.length
 | [],_=>rfl
 | _::_,[]=>rfl
 | n::r,v::l=>by simp [Oo,Oq r l]
theorem AE:∀ (szs:List Nat) (l:List PV) (j:Nat) (h:j<l.length) (h':j<(Oo szs l).length),∃ n,(Oo szs l)[j]=Vy n l[j]
 | [],l,j,h,h'=>⟨0,by
  have e:Oo [] l=l:=by cases l<;>rfl
  simp only [e]
  unfold Vy
  split
  ·rename_i he;rw [he];simp
  ·rfl⟩
 | n::r,v::l,0,h,h'=>⟨n,rfl⟩
 | n::r,v::l,j+1,h,h'=>by
  obtain ⟨m,e⟩:=AE r l j (by simpa using h) (by simpa [Oo] using h')
  exact ⟨m,by simpa [Oo] using e⟩
theorem Bt5 {szs:List Nat} {v:PV} {V:Value} (h:VP Γ sh w v V):VP Γ sh w (Cb7 szs v) V:=by
 unfold Cb7
 split
 ·rename_i l
  obtain ⟨A,rfl,hA,hc⟩:=h.inv_agg
  refine VP.mk_agg (by rw [Oq];exact hA) λj hj=>?_
  have hj':j<l.length:=by rw [Oq] at hj;exact hj
  obtain ⟨U,e,k⟩:=hc j hj'
  obtain ⟨m,e2⟩:=AE szs l j hj' hj
  exact ⟨U,e,by rw [e2];exact Wr k⟩
 ·exact Wr h
theorem PW:∀ (szs:List (List Nat)) (l:List PV),(C1 szs l).length=l.length
 | [],_=>rfl
 | _::_,[]=>rfl
 | n::r,v::l=>by simp [C1,PW r l]
theorem Bt6:∀ (szs:List (List Nat)) (l:List PV) (V:Array Value),CR Γ sh w l V->CR Γ sh w (C1 szs l) V:=by
 intro szs l V h
 refine ⟨by rw [PW];exact h.1,?_⟩
 have key:∀ (szs:List (List Nat)) (l:List PV) (As:Nat->Option Value),(∀ j (h:j<l.length),∃ U,As j=some U/\VP Γ sh w (l[j]) U)->∀ j (h:j<(C1 szs l).length),∃ U,As j=some U/\VP Γ sh w ((C1 szs l)[j]) U:=by
  intro szs
  induction szs with
  | nil=>intro l As hl j hj;exact hl j (by cases l<;>exact hj)
  | cons s r ih=>
   intro l As hl j hj
   cases l with
   | nil=>simp [C1] at hj
   | cons v l=>
    cases j with
    | zero=>
     obtain ⟨U,e,k⟩:=hl 0 (by simp)
     exact ⟨U,e,Bt5 k⟩
    | succ j=>
     have:=ih l (λj=>As (j+1)) (λj h=>hl (j+1) (by simpa using h)) j (by simpa [C1] using hj)
     simpa [C1] using this
 exact key szs l (λj=>V[j]?) h.2
end
theorem A7.fix {P:Program} {G:GT} {g:Nat} {pf:List PV->Tr} (szs:List (List Nat)) (h:A7 P G g pf):A7 P G g (λargs=>pf (C1 szs args)):=
 λargs ret Hc hpf C hP hGe Γ w Vs hnm hH hG hc=>h (C1 szs args) ret Hc hpf C hP hGe Γ w Vs hnm hH hG (Bt6 szs args Vs hc)
def plE (els:LL):Bool:=els.all λel=>el.all SV.plain
theorem E6 {v:PV} {H:List Blk} {ret:PV} {Hc:List Blk} (h:G7 (.ret v H)=some (ret,Hc)):ret=v/\Hc=H:=by
 simp only [G7,Bn,Option.some.injEq,Prod.mk.injEq] at h
 grind
theorem B6 {c:Bool} {t:Tr} {ret:PV} {Hc:List Blk} (h:G7 (.need c t)=some (ret,Hc)):c=true/\G7 t=some (ret,Hc):=by
 cases c with
 | true=>exact ⟨rfl,h⟩
 | false=>cases h
theorem Bj9 {c:Bool} {a b:Tr} {ret:PV} {Hc:List Blk} (h:G7 (.split c a b)=some (ret,Hc)):(c=true/\G7 a=some (ret,Hc))\/(c=false/\G7 b=some (ret,Hc)):=by
 cases c with
 | true=>exact .inl ⟨rfl,h⟩
 | false=>exact .inr ⟨rfl,h⟩
theorem B76:∃ n:Nat,100000000000000000000<=n:=⟨_,Nat.le_refl _⟩
noncomputable def LF:Nat:=Classical.choose B76
theorem F6:100000000000000000000<=LF:=Classical.choose_spec B76
attribute [irreducible] LF
theorem As4 (b:UInt8):Vx (G0 b)=b:=by
 simp [Vx,G0,SV.gI]
theorem Jr (l:List UInt8):(l.map G0).map Vx=l:=by
 rw [List.map_map]
 have:Vx ∘ G0=id:=by funext b;exact As4 b
 rw [this,List.map_id]
theorem Av2 (b:UInt8):AQ (G0 b)=true:=by
 have:=b.toNat_lt
 simp only [AQ,G0,Bool.and_eq_true,decide_eq_true_eq]
 omega
theorem Iv (l:List UInt8):(l.map G0).all AQ=true:=by
 rw [List.all_map]
 simp [Function.comp_def,Av2]
theorem Cg5 (n:Nat):IntKind.wrap .u8 (n:Int)=((n % 256:Nat):Int):=by simp [IntKind.wrap,IntKind.bits,IntKind.signed]
theorem Ap3 (n:Nat):IntKind.wrap .u16 (n:Int)=((n % 65536:Nat):Int):=by simp [IntKind.wrap,IntKind.bits,IntKind.signed]
theorem B45 (n:Nat):IntKind.wrap .u32 (n:Int)=((n % 4294967296:Nat):Int):=by simp [IntKind.wrap,IntKind.bits,IntKind.signed]
theorem B46 (n:Nat):IntKind.wrap .u64 (n:Int)=((n % 18446744073709551616:Nat):Int):=by simp [IntKind.wrap,IntKind.bits,IntKind.signed]
theorem B44 (n:Int) (h0:-9223372036854775808<=n) (h1:n<9223372036854775808):IntKind.wrap .i64 n=n:=by
 simp [IntKind.wrap,IntKind.bits,IntKind.signed]
 split<;>omega
theorem Ba7 (n m:Nat):Int.fdiv (n:Int) (m:Int)=((n / m:Nat):Int):=by
 rw [Int.fdiv_eq_ediv_of_nonneg _ (by omega)]
 rfl
theorem Y6 (n m:Nat):Int.tdiv (n:Int) (m:Int)=((n / m:Nat):Int):=by
 rw [Int.tdiv_eq_ediv_of_nonneg (by omega)]
 rfl
theorem CL (n m:Nat):Int.tmod (n:Int) (m:Int)=((n % m:Nat):Int):=by
 rw [Int.tmod_eq_emod_of_nonneg (by omega)]
 rfl
theorem Ca9 (w a b:Nat) (ha:a<2 ^ w) (hb:b<2 ^ w):(BitVec.ofInt w (a:Int) ||| BitVec.ofInt w (b:Int)).toNat=a ||| b:=by
 simp [BitVec.ofInt_natCast,Nat.mod_eq_of_lt ha,Nat.mod_eq_of_lt hb]
theorem B89 (w a b:Nat) (ha:a<2 ^ w) (hb:b<2 ^ w):(BitVec.ofInt w (a:Int) &&& BitVec.ofInt w (b:Int)).toNat=a &&& b:=by
 simp [BitVec.ofInt_natCast,Nat.mod_eq_of_lt ha,Nat.mod_eq_of_lt hb]
theorem Cd6 (a b i:Nat) (h:a<2 ^ i):a ||| (b*2 ^ i)=a+b*2 ^ i:=by
 rw [Nat.mul_comm b,Nat.or_comm,Nat.add_comm]
 exact (Nat.two_pow_add_eq_or_of_lt h b).symm
end
section
open Go Go.ChangeShapes Go.RowKit Go.Sort Go.WideShapes
theorem Md {P:Program} {f:Nat} {fn:Func} {Vs:Array Value} {w:World} {R:Value->World->Prop} (hf:P.funcs[f]? = some fn) (hb:fn.body.isSome=true) (hn:(fn.name == "runtime.NumGoroutine")=false)
  (h:Calls P f Vs w λe w'=>∃ V,e = .returned V/\R V w'):L5 P ((callFunc f Vs).run P w) R:=by
 obtain ⟨c,hb⟩:=Option.isSome_iff_exists.1 hb
 intro ro n o a next Q hnext
 have hrun:(callFunc f Vs).run P w = .ok (.enter f Vs) w:=by
  have hn':¬ fn.name = "runtime.NumGoroutine":=by simpa using hn
  simp [callFunc,hf,hb,hn',Result.andThen]
 rw [hrun]
 simp only [Oper.uponIn_enter]
 refine ⟨λh=>(by simp [D7,Fence.wide] at h),?_⟩
 have key:CallsIn Fence.wide (n-1) P f Vs w λe w'=>∃ V,e = .returned V/\R V w':=callsIn_wide.2 h
 have key':CallsIn (D7 ro) (n-1) P f Vs w λe w'=>∃ V,e = .returned V/\R V w':=key
 refine key'.mono ?_
 rintro e w' ⟨V,rfl,hR⟩
 exact hnext V w' hR
theorem A92 {C:Cfg} {Γ:Ctx} {w w':World} {ret:PV} {V:Value} (hnm:∀ b,Γ.nm b=none) (hH:HR Γ [] w) (hb:Below w.heap.size w w') (hv:VP Γ (A1 []) w' ret V) (hr:ret.nms=[]):T9 C I0 Γ [] w noΦ ret [] () V w':=by
 refine ⟨Γ,noΦ,⟨hb.os,hb.tape,hb.output,hb.size,λ_ h=>h,λ_ h=>.inl h,λb g h=>(by rw [hnm] at h;cases h),λ_ h=>h.elim,λg hg _ _=>hb.block g hg,rfl,Nat.le_refl _,λb h=>(by simp at h)⟩,
  ⟨λb b' g h=>(by rw [hnm] at h;cases h),λb g h=>(by rw [hnm] at h;cases h),λg hg=>Nat.lt_of_lt_of_le (hH.stlt g hg) hb.size,λb h=>(by simp at h),λb h=>(by simp at h)⟩,hv,by rw [hr];simp,λ_ h=>h,λb g h=>(by rw [hnm] at h;cases h)⟩
theorem Iz (w:World) (n:Nat):Below w.heap.size w (w.drewN n):=⟨rfl,rfl,rfl,Nat.le_refl _,λ_ _=>rfl⟩
theorem Zc (w:World) (os:Array Obj):Below w.heap.size w (grow w os):=by
 refine ⟨rfl,rfl,rfl,by simp [grow],λk hk=>?_⟩
 simp only [grow]
 grind
theorem VT (w:World) (s:ByteArray) (pos:Nat):Below w.heap.size w (w.iter s pos):=(Below.refl _ w).alloc (Nat.le_refl _) _
section
variable {Γ : Ctx} {sh : Nat -> Option Shp} {w : World}
theorem CR.arr1 {a:PV} {A:Array Value} (h:CR Γ sh w [a] A):∃ U,A = #[U]/\VP Γ sh w a U:=by
 obtain ⟨U,e,k⟩:=h.2 0 (by simp)
 refine ⟨U,?_,k⟩
 have hs:A.size=1:=h.1
 grind
theorem CR.arr2 {a b:PV} {A:Array Value} (h:CR Γ sh w [a,b] A):∃ U V,A = #[U,V]/\VP Γ sh w a U/\VP Γ sh w b V:=by
 obtain ⟨U,e,k⟩:=h.2 0 (by simp)
 obtain ⟨V,e',k'⟩:=h.2 1 (by simp)
 refine ⟨U,V,?_,k,k'⟩
 have hs:A.size=2:=h.1
 grind
theorem CR.arr3 {a b c:PV} {A:Array Value} (h:CR Γ sh w [a,b,c] A):∃ U V W,A = #[U,V,W]/\VP Γ sh w a U/\VP Γ sh w b V/\VP Γ sh w c W:=by
 obtain ⟨U,e,k⟩:=h.2 0 (by simp)
 obtain ⟨V,e',k'⟩:=h.2 1 (by simp)
 obtain ⟨W,e'',k''⟩:=h.2 2 (by simp)
 refine ⟨U,V,W,?_,k,k',k''⟩
 have hs:A.size=3:=h.1
 grind
theorem VP.mk_str (l:List UInt8):VP Γ sh w (.s (.str l)) (.string ⟨l.toArray⟩):=by
 have:=VP.s (Γ:=Γ) (sh:=sh) (w:=w) _ _ (VS.str (St:=Γ.St) (w:=w) ⟨l.toArray⟩)
 omega
theorem VP.mk_int (k:IntKind) (n:Int):VP Γ sh w (.s (.int k n)) (.int k n):=.s _ _ (.int k n)
theorem VP.mk_bool (b:Bool):VP Γ sh w (.s (.bool b)) (.bool b):=.s _ _ (.bool b)
theorem VP.mk_tup3 {a b c:PV} {U V W:Value} (h:VP Γ sh w a U) (k:VP Γ sh w b V) (l:VP Γ sh w c W):VP Γ sh w (.tup [a,b,c]) (.tuple #[U,V,W]):=
 VP.mk_tup rfl λj hj=>by grind
end
theorem F3 {P:Program} {G:GT} {g:Nat} {fn:Func} {pf:List PV->Tr} (hf:P.funcs[g]? = some fn) (hb:fn.body.isSome=true) (hn:(fn.name == "runtime.NumGoroutine")=false)
  (h:∀ args ret Hc,G7 (pf args)=some (ret,Hc)->Hc=[]/\ret.nms=[]/\∀ C:Cfg,C.P=P->C.G=G->∀ Γ w Vs,GOK C Γ.St w->(∀ g,Γ.St g->g<w.heap.size)->CR Γ (A1 []) w args Vs->
   Calls P g Vs w λe w'=>∃ V,e = .returned V/\Below w.heap.size w w'/\VP Γ (A1 []) w' ret V):A7 P G g pf:=by
 intro args ret Hc hpf C hP hG Γ w Vs hnm hH hg hc
 obtain ⟨rfl,hr,h1⟩:=h args ret Hc hpf
 exact Md hf hb hn ((h1 C hP hG Γ w Vs hg hH.stlt hc).mono λe w' ⟨V,he,hb,hv⟩=>⟨V,he,A92 hnm hH hb hv hr⟩)
def PV.stab (szs:List Nat) (H:List Blk):PV->PV
 | .tup l=>.tup (Oo szs (K2 H l))
 | v=>Vy (szs.headD 0) (v.snap H)
theorem VP.stab {Γ:Ctx} {H:List Blk} {w:World} (szs:List Nat) (hH:HR Γ H w) {v:PV} {V:Value} (h:VP Γ (A1 H) w v V):VP Γ.all (A1 H) w (v.stab szs H) V:=by
 by_cases ht:∃ l,v = .tup l
 ·obtain ⟨l,rfl⟩:=ht
  obtain ⟨A,rfl,hA,hc⟩:=h.inv_tup
  simp only [PV.stab]
  have hl:(Oo szs (K2 H l)).length=l.length:=by rw [Oq,Dv,List.length_map]
  refine VP.mk_tup (by rw [hl];exact hA) λj hj=>?_
  obtain ⟨U,e,k⟩:=hc j (by omega)
  refine ⟨U,e,?_⟩
  have hj':j<(K2 H l).length:=by rw [Dv,List.length_map];omega
  obtain ⟨n,en⟩:=AE szs (K2 H l) j hj' hj
  rw [en]
  have e2:(K2 H l)[j]=(l[j]'(by omega)).snap H:=by
   simp only [Dv,List.getElem_map]
  rw [e2]
  exact Wr (k.snap hH)
 ·have e:v.stab szs H=Vy (szs.headD 0) (v.snap H):=by
   cases v with
   | tup l=>exact absurd ⟨l,rfl⟩ ht
   | _=>rfl
  rw [e]
  exact Wr (h.snap hH)
theorem Ah1 (f:List Blk->PV->PV) (hf:∀ {Γ:Ctx} {H:List Blk} {w:World},HR Γ H w->∀ {v:PV} {V:Value},VP Γ (A1 H) w v V->VP Γ.all (A1 H) w (f H v) V) {C₀:Cfg} {g:Nat} {pf:List PV->Tr} (hX:XOK C₀) (hO:Fp C₀) (hm:C₀.P.follows .mixedOrders=true)
  (h:∀ args ret Hc,G7 (pf args)=some (ret,Hc)->B9 args=[]/\Hc=[]/\ret.nms=[]/\∃ d ret' H0,evC C₀ d Unit noY g args [] ()=some (ret',H0,())/\f H0 ret'=ret):A7 C₀.P C₀.G g pf:=by
 intro args ret Hc hpf C hP hGe Γ w Vs hnm hH hG hc
 obtain ⟨hna,rfl,hnr,d,ret',H0,hev,rfl⟩:=h args ret Hc hpf
 have h0:=Ey (C₀:=C₀) (g:=g) (pf:=λa=>match evC C₀ d Unit noY g a [] () with | some (r,H,_)=>cond (B9 a).isEmpty (.ret r H) .fail | none=>.fail) hX hO hm (λa r H hr=>by
  split at hr
  ·rename_i r' H' _ he
   cases hn:(B9 a).isEmpty with
   | true=>
    rw [hn] at hr
    simp only [cond_true,G7,Bn,Option.some.injEq,Prod.mk.injEq] at hr
    grind
   | false=>rw [hn] at hr;cases hr
  ·cases hr)
 refine (h0 args ret' H0 (by dsimp only;rw [hev];dsimp only;rw [hna];rfl) C hP hGe Γ w Vs hnm hH hG hc).mono ?_
 rintro V w' ⟨Γ1,Φ1,hs,hH1,hv,hvn,hi1,hd1⟩
 let Γ2:Ctx:={ Γ1.all with nm:=λ_=>none }
 have hlt:∀ g,Γ2.St g->g<w'.heap.size:=λg hg=>by
  rcases hg with hg | ⟨b,hb⟩
  ·exact hH1.stlt g hg
  ·exact (hH1.lt b g hb).2.1
 refine ⟨Γ2,Φ1,⟨hs.os,hs.tape,hs.output,hs.size,λg hg=>.inl (hs.sub g hg),λg hg=>?_,λb g h=>by simp [Γ2] at h,hs.foot,hs.frame,hs.yv,Nat.le_refl _,λb hb=>by simp at hb⟩,
  Gr (λ_=>rfl) hlt,?_,by rw [hnr];simp,hi1,λb g h=>by simp [Γ2] at h⟩
 ·rcases hg with hg | ⟨b,hb⟩
  ·exact hs.stnew g hg
  ·rcases hs.own b g hb with ⟨h',_⟩ | h'
   ·simp at h'
   ·exact .inr h'
 ·exact VP.mono (Γ:=Γ1.all) (Γ':=Γ2) (w:=w') (w':=w') (sh:=A1 H0) (ok:=λ_=>False) ⟨λ_ _=>rfl,λ_ h=>h,λ_ h=>h.elim,λ_ h=>h.elim,λ_ _ h=>h.elim,rfl⟩ (hf hH1 hv) (by rw [hnr];simp)
theorem F5 (szs:List Nat) {C₀:Cfg} {g:Nat} {pf:List PV->Tr} (hX:XOK C₀) (hO:Fp C₀) (hm:C₀.P.follows .mixedOrders=true)
  (h:∀ args ret Hc,G7 (pf args)=some (ret,Hc)->B9 args=[]/\Hc=[]/\ret.nms=[]/\∃ d ret' H0,evC C₀ d Unit noY g args [] ()=some (ret',H0,())/\ret'.stab szs H0=ret):A7 C₀.P C₀.G g pf:=
 Ah1 (λH v=>v.stab szs H) (λhH _ _ h=>h.stab szs hH) hX hO hm h
def Tr.Good (szs:List Nat) (args:List PV) (e:Option (PV × List Blk × Unit)):Tr->Prop
 | .ret v H=>B9 args=[]/\H=[]/\v.nms=[]/\∃ r H0,e=some (r,H0,())/\r.stab szs H0=v
 | .need c t=>c=true->Good szs args e t
 | .split c a b=>(c=true->Good szs args e a)/\(c=false->Good szs args e b)
 | .fail=>True
theorem Tr.Good.res {szs:List Nat} {args:List PV} {e:Option (PV × List Blk × Unit)} {ret:PV} {Hc:List Blk}:∀ {t:Tr},t.Good szs args e->G7 t=some (ret,Hc)->B9 args=[]/\Hc=[]/\ret.nms=[]/\∃ r H0,e=some (r,H0,())/\r.stab szs H0=ret
 | .ret v H,h,hr=>by
  obtain ⟨rfl,rfl⟩:=E6 hr
  exact h
 | .need c t,h,hr=>by
  obtain ⟨h0,hr⟩:=B6 hr
  exact res (h h0) hr
 | .split c a b,h,hr=>by
  rcases Bj9 hr with ⟨h0,hr⟩ | ⟨h0,hr⟩
  ·exact res (h.1 h0) hr
  ·exact res (h.2 h0) hr
theorem xf (szs:List Nat) (C₀:Cfg) {g:Nat} (pf:List PV->Tr) {ss:List (List Nat)} {l:List (Nat × (List PV->Tr))} {lo:List Nat} (hl:C₀.X=TQ l) (hx:G8 C₀.P C₀.G l) (ho:C₀.okf=okL lo) (hb:ZS C₀ lo=true) (hm:C₀.P.follows .mixedOrders=true)
  (h:∀ args,(pf args).Good szs args (evC C₀ 1 Unit noY g args [] ())) (h2:C₀.Y=Kf []:=by rfl) (h3:C₀.S=Kf []:=by rfl) (h4:C₀.Z=Kf []:=by rfl):A7 C₀.P C₀.G g (λargs=>pf (C1 ss args)):=
 A7.fix ss (F5 szs (G8.ok hl hx h2 h3 h4) (D4 ho hb) hm λargs ret Hc hr=>by
  obtain ⟨q1,q2,q3,r,H0,q4,q5⟩:=(h args).res hr
  exact ⟨q1,q2,q3,1,r,H0,q4,q5⟩)
end
section
open Go
def YJ (n:Nat) (ret:PV) (H:List Blk):Bool:=ret.nms.all (Nat.blt · n)&&H.all λb=>b.nms.all (Nat.blt · n)
theorem T9.head {C:Cfg} {σ:Type} {I:σ->(Nat->Prop)->(Nat->Prop)->World->Prop} {Γ:Ctx} {H Hc T:List Blk} {w w':World} {Φ:Nat->Prop} {s':σ} {ret:PV} {V:Value}
  (h:T9 C I Γ H w Φ ret (Hc++T) s' V w') (hl:H.length<=Hc.length) (hok:YJ Hc.length ret Hc=true):T9 C I Γ H w Φ ret Hc s' V w':=by
 obtain ⟨Γ1,Φ1,hs,hH1,hv,hvn,hi1,hd1⟩:=h
 simp only [YJ,Bool.and_eq_true,List.all_eq_true,Nat.blt_eq] at hok
 let Γ2:Ctx:={ Γ1 with nm:=λb=>if b<Hc.length then Γ1.nm b else none }
 have hnm:∀ b g,Γ2.nm b=some g->b<Hc.length/\Γ1.nm b=some g:=λb g h=>by grind
 have get:∀ b (h:b<Hc.length) (h':b<(Hc++T).length),(Hc++T)[b]=Hc[b]:=λb h h'=>List.getElem_append_left h
 have shp:∀ b,b<Hc.length->A1 Hc b=A1 (Hc++T) b:=λb hb=>by
  simp only [A1]
  grind
 have M:T3 Γ1 (A1 (Hc++T)) w' Γ2 (A1 Hc) w' (· < Hc.length):=⟨λ_ _=>rfl,λ_ h=>h,λb hb=>by simp only [Γ2];rw [if_pos hb],λb hb=>shp b hb,λ_ _ _ _=>rfl,rfl⟩
 refine ⟨Γ2,Φ1,⟨hs.os,hs.tape,hs.output,hs.size,hs.sub,hs.stnew,λb g h=>hs.own b g (hnm b g h).2,hs.foot,hs.frame,hs.yv,hl,λb hb hf=>?_⟩,
  ⟨λb b' g h1 h2=>hH1.inj b b' g (hnm b g h1).2 (hnm b' g h2).2,λb g h=>by have:=hH1.lt b g (hnm b g h).2;exact ⟨(hnm b g h).1,this.2⟩,hH1.stlt,λb hb c hc=>hok.2 _ (List.getElem_mem hb) c hc,λb hb=>?_⟩,
  hv.mono M (λb hb=>hok.1 b hb),λc hc=>hok.1 c hc,hi1,λb g h=>hd1 b g (hnm b g h).2⟩
 ·obtain ⟨m1,m2,m3⟩:=hs.keep b hb hf
  have hb2:b<Hc.length:=Nat.lt_of_lt_of_le hb hl
  exact ⟨by simp only [Γ2];rw [if_pos hb2];exact m1,by rw [shp b hb2];exact m2,m3⟩
 ·have hb':b<(Hc++T).length:=by rw [List.length_append];omega
  have:=hH1.blk b hb'
  rw [get b hb hb'] at this
  exact this.mono M (M.nm b hb) (λ_ _=>rfl) (λc hc=>hok.2 _ (List.getElem_mem hb) c hc)
theorem T2 {C₀:Cfg} {g:Nat} {pf:List PV->List Blk->Tr} (hX:XOK C₀) (hO:Fp C₀) (hm:C₀.P.follows .mixedOrders=true)
  (h:∀ args H ret Hc,G7 (pf args H)=some (ret,Hc)->Nat.ble H.length Hc.length=true/\YJ Hc.length ret Hc=true/\∀ (σ:Type) (yh:Yh σ) (s:σ),∃ d H0,evC C₀ d σ yh g args H s=some (ret,H0,s)/\H0.take Hc.length=Hc):Ls C₀.P C₀.G g pf:=by
 intro C hP hG σ I yh yv hI hy args H s ret Hc hpf Γ Φ w Vs hyv hH hg hi hd hc hn
 obtain ⟨hl,hok,h1⟩:=h args H ret Hc hpf
 obtain ⟨d,H0,hev,ht⟩:=h1 σ yh s
 rw [<-List.take_append_drop Hc.length H0,ht] at hev
 refine (Fw hX hO hm d σ I yh yv hI hy g args H s ret (Hc++H0.drop Hc.length) s hev Γ Φ w Vs hyv hH (hg.congr hG.symm) hi hd hc hn).mono ?_
 rintro V w' hr
 obtain ⟨Γ1,Φ1,hs,k1,k2,k3,k4,k5⟩:=hr.head (Nat.le_of_ble_eq_true hl) hok
 exact ⟨Γ1,Φ1,hs.congr hP.symm,k1,k2,k3,k4,k5⟩
def Cq:List Int:=(List.range 32).map λi=>((if i % 2=0 then Lib.accLo (i / 2) else Lib.accHi (i / 2):Nat):Int)
def GX:GT:=⟨λg=>cond (Nat.beq g 1) (some (.u8,Lib.firstTab)) (cond (Nat.beq g 2) (some (.u8,Cq)) (cond (Nat.beq g 3) (some (.u64,Lib.pow10Tab)) (cond (Nat.beq g 5) (some (.u8,Lib.deBruijn64tab.map λn:Nat=>(n:Int))) none))),λg=>Nat.beq g 0⟩
def Cm0:List (Nat × Nat × Nat × Nat)->Nat->Nat->Nat × Nat
 | [],_,_=>(0,0)
 | (t,j,e,k)::r,t',j'=>cond (Nat.beq t t'&&Nat.beq j j') (e,k) (Cm0 r t' j')
def B92:List (Nat × Nat)->Nat->Option Nat
 | [],_=>none
 | (a,b)::r,i=>cond (Nat.beq a i) (some b) (B92 r i)
noncomputable def B8 (lf:Nat) (okf:List Nat) (keep:Nat->Option (List Nat)) (X:List (Nat × (List PV->Tr))) (keepR:Nat->Option (List Nat):=λ_=>none) (xp:List Nat:=[]) (keepE:Nat->Option (List Nat):=λ_=>none) (keepT:Option (List Nat):=none) (Y:List (Nat × (List PV->List Blk->Tr)):=[]) (S:List (Nat × (List PV->List Blk->Option (Bool × List (List PV)))):=[]) (lend:List Nat:=[]) (nt:List (Nat × Nat × Nat × Nat):=[]) (rw:List (Nat × Nat):=[]) (Z:List (Nat × (SV->List (List SV)->Bool × List (List SV))):=[]) (fr:List (Nat × List Nat × List Nat):=[]):Cfg:=
 { P:=Tryz.prog,G:=GX,X:=TQ X,lend:=okL lend,okf:=okL okf,lf:=lf,keep:=keep,keepR:=keepR,xp:=okL xp,keepE:=keepE,keepT:=keepT,Y:=Kf Y,S:=Kf S,nilT:=Cm0 nt,rowR:=B92 rw,Z:=Kf Z,farR:=A3 fr }
theorem follows:Tryz.prog.follows .mixedOrders=true:=by kernel_rfl
theorem A02 {n:Nat}:J9 n=true↔n<=68719476736:=by simp [J9]
theorem I9 {n:Nat} (h:n<=68719476736):J9 n=true:=A02.2 h
theorem D8 {a b:Int} (h:a<b):ltI a b=true:=by rw [Nf];simpa using h
theorem I3 {a b:Int} (h:b<=a):ltI a b=false:=by rw [Nf];simpa using h
theorem Le {a b:Int}:ltI a b=true↔a<b:=by rw [Nf];simp
theorem Pj {a b:Int}:ltI a b=false↔b<=a:=by rw [Nf];simp
theorem M4 {n:Int} (h0:-9223372036854775808<=n) (h1:n<9223372036854775808):A4 n=n:=B44 n h0 h1
theorem NJ {n:Int} (h0:0<=n) (h1:n<18446744073709551616):Cg6 n=n:=by
 obtain ⟨m,rfl⟩:=Int.eq_ofNat_of_zero_le h0
 unfold Cg6;rw [B46,Nat.mod_eq_of_lt (by omega)]
theorem Ap5 {n:Int} (h0:0<=n) (h1:n<4294967296):Bm2 n=n:=by
 obtain ⟨m,rfl⟩:=Int.eq_ofNat_of_zero_le h0
 unfold Bm2;rw [B45,Nat.mod_eq_of_lt (by omega)]
theorem Ap4 {n:Int} (h0:0<=n) (h1:n<65536):Qz n=n:=by
 obtain ⟨m,rfl⟩:=Int.eq_ofNat_of_zero_le h0
 unfold Qz;rw [Ap3,Nat.mod_eq_of_lt (by omega)]
theorem NK {n:Int} (h0:0<=n) (h1:n<256):wu8 n=n:=by
 obtain ⟨m,rfl⟩:=Int.eq_ofNat_of_zero_le h0
 unfold wu8;rw [Cg5,Nat.mod_eq_of_lt (by omega)]
theorem B4 {a b:Int} (h:a<b:=by omega):ltI a b=true:=D8 h
theorem A6 {a b:Int} (h:b<=a:=by omega):ltI a b=false:=I3 h
theorem A8 {n:Int} (h:-9223372036854775808<=n:=by omega) (g:n<9223372036854775808:=by omega):A4 n=n:=M4 h g
theorem CS {n:Int} (h:0<=n:=by omega) (g:n<4294967296:=by omega):Bm2 n=n:=Ap5 h g
theorem Ua {n:Int} (h:0<=n:=by omega) (g:n<65536:=by omega):Qz n=n:=Ap4 h g
theorem W8 {n:Int} (h:0<=n:=by omega) (g:n<256:=by omega):wu8 n=n:=NK h g
theorem Bj {α:Sort _} {c:Prop} [Decidable c] {a b:α} (h:c:=by omega):(if c then a else b)=a:=if_pos h
theorem P5 {α:Sort _} {c:Prop} [Decidable c] {a b:α} (h:¬c:=by omega):(if c then a else b)=b:=if_neg h
theorem Bm1 (n:Nat):Qz (n:Int)=((n % 65536:Nat):Int):=Ap3 n
theorem Ao3 (k:IntKind) (a m:Nat) (h:m<=k.bits):DI k (a:Int) (m:Int)=((a / 2 ^ m:Nat):Int):=by
 unfold DI
 rw [Int.toNat_natCast,Nat.min_eq_left h]
 have:(2:Int) ^ m=((2 ^ m:Nat):Int):=by simp
 rw [this,Ba7]
theorem Hp {l h:Int} {n:Nat} (h0:0<=l) (h1:l<=h) (h2:h<=n):L3 l h n=true:=by simp [L3,h0,h1,h2]
theorem O6 {i:Int} {n:Nat} (h0:0<=i) (h1:i<n):inR i n=true:=by simp [inR,h0,h1]
theorem M7 {l h:Int} {n:Nat} (h0:0<=l:=by omega) (h1:l<=h:=by omega) (h2:h<=n:=by omega):L3 l h n=true:=Hp h0 h1 h2
theorem J2 {i:Int} {n:Nat} (h0:0<=i:=by omega) (h1:i<n:=by omega):inR i n=true:=O6 h0 h1
end
section
open Go Go.Proofs
def Xb (r:Option (PV × List Blk × Unit)):Bool:=match r with
 | some (.s (.bool true),_,_)=>true
 | _=>false
theorem MH {r:Option (PV × List Blk × Unit)} (h:Xb r=true):∃ H,r=some (.s (.bool true),H,()):=by
 unfold Xb at h
 split at h
 ·exact ⟨_,rfl⟩
 ·cases h
theorem Ah2 {C₀:Cfg} {g d:Nat} (hX:XOK C₀) (hO:Fp C₀) (hm:C₀.P.follows .mixedOrders=true) (h:Xb (evC C₀ d Unit noY g [] [] ())=true):A7 C₀.P C₀.G g (λargs=>match args with | []=>.ret (.s (.bool true)) [] | _=>.fail):=
 NQ hX hO hm λargs ret Hc hr=>by
  cases args with
  | nil=>
   obtain ⟨rfl,rfl⟩:=E6 hr
   obtain ⟨H,e⟩:=MH h
   exact ⟨rfl,rfl,rfl,d,_,H,e,rfl⟩
  | cons a r=>cases hr
theorem Aj5 {P:Program} {t:Nat} {v:PV} {ty:Ty} (h:Nu P t v) (e:Bq P 20 t=some [ty]) (ha:Iu P t=false):∃ x,v = .s x/\ty.of x:=by
 obtain ⟨tys,l,h1,h2,h3⟩:=h
 rw [e] at h1
 simp only [Option.some.injEq] at h1
 subst h1
 rcases h3 with ⟨h3,_⟩ | ⟨_,x,rfl,rfl⟩
 ·rw [ha] at h3;cases h3
 ·simp only [Ty.ofL] at h2
  obtain ⟨v,q,h4,h5,rfl⟩:=h2
  simp only [List.cons.injEq,and_true] at h4
  subst h4
  exact ⟨_,rfl,h5⟩
theorem Bq3 {P:Program} {t:Nat} {v:PV} {k:IntKind} (h:Nu P t v) (e:Bq P 20 t=some [.int k]) (ha:Iu P t=false):∃ n,v = .s (.int k n)/\k.min<=n/\n<=k.max:=by
 obtain ⟨x,rfl,n,rfl,h1,h2⟩:=Aj5 h e ha
 exact ⟨n,rfl,h1,h2⟩
end
section
open Go
def C5 (l:List By):LL:=l.map λs=>[SV.str s]
def E7 (l:List Nat):LL:=l.map λn=>[SV.int .u16 (Int.ofNat n)]
def K8 (c:UInt8):By->By->List By
 | acc,[]=>[acc]
 | acc,b::r=>if b=c then acc::K8 c [] r else K8 c (acc++[b]) r
def pcs (c:UInt8) (s:By):List By:=K8 c [] s
theorem Ew (c:UInt8):∀ (s acc:By),(K8 c acc s).length=s.count c+1
 | [],acc=>rfl
 | b::r,acc=>by
  simp only [K8,List.count_cons]
  by_cases h:b=c
  ·simp [h,Ew c r]
  ·simp [h,Ew c r]
theorem Ql (c:UInt8):∀ (s acc:By),c∉s->K8 c acc s=[acc++s]
 | [],acc,_=>by simp [K8]
 | b::r,acc,h=>by
  simp only [List.mem_cons,not_or] at h
  simp only [K8]
  rw [if_neg (λe=>h.1 e.symm),Ql c r _ h.2]
  simp
theorem Vp (c:UInt8):∀ (p acc s:By),c∉p->K8 c acc (p++c::s)=(acc++p)::K8 c [] s
 | [],acc,s,_=>by simp [K8]
 | b::r,acc,s,h=>by
  simp only [List.mem_cons,not_or] at h
  simp only [List.cons_append,K8]
  rw [if_neg (λe=>h.1 e.symm),Vp c r _ s h.2]
  simp
theorem Ad4 (c:UInt8) (s acc:By):K8 c acc s≠[]:=by
 intro h
 have:=Ew c s acc
 rw [h] at this
 simp at this
theorem Kd (c:UInt8):∀ (s acc:By),c∉acc->∀ x∈K8 c acc s,c∉x/\x.length<=acc.length+s.length
 | [],acc,h,x,hx=>by
  simp only [K8,List.mem_singleton] at hx
  subst hx
  exact ⟨h,by simp⟩
 | b::r,acc,h,x,hx=>by
  simp only [K8] at hx
  split at hx
  ·rcases List.mem_cons.1 hx with rfl | hx
   ·exact ⟨h,by simp⟩
   ·have:=Kd c r [] (by simp) x hx
    refine ⟨this.1,?_⟩
    have:=this.2
    simp at this ⊢
    omega
  ·rename_i hb
   have:=Kd c r (acc++[b]) (by simp [h,Ne.symm hb]) x hx
   refine ⟨this.1,?_⟩
   have:=this.2
   simp at this ⊢
   omega
def X1 (b:UInt8):UInt8:=if 65<=b/\b<=90 then b+32 else b
def C0 (s:By):By:=s.map X1
def dig (b:UInt8):Nat:=
 if 48<=b.toNat/\b.toNat<=57 then b.toNat-48 else if 97<=b.toNat/\b.toNat<=102 then b.toNat-87 else if 65<=b.toNat/\b.toNat<=70 then b.toNat-55 else 99
def Gg:Nat:=1099511627776
def G6 (base:Nat):Nat->By->Option Nat
 | n,[]=>some n
 | n,b::r=>if dig b<base then G6 base (min (n*base+dig b) Gg) r else none
def El (s:By):Bool:=s.getD 0 0==48&&(s.getD 1 0==120 || s.getD 1 0==88)
def Lq (s:By):Option Nat:=
 if s=[] then none else if El s then G6 16 0 (s.drop 2) else if 1<s.length/\s.getD 0 0=48 then G6 8 0 (s.drop 1) else G6 10 0 s
def D1 (s:By):List By:=if 1<(pcs 46 s).length/\(pcs 46 s).getLastD []=[] then (pcs 46 s).dropLast else pcs 46 s
def Dk (s:By):By:=(D1 s).getLastD []
def K5 (s:By):Bool:=if El (Dk s) then (G6 16 0 ((Dk s).drop 2)).isSome else !(Dk s).isEmpty&&(G6 10 0 (Dk s)).isSome
def BQ (free:Nat):Nat->List By->Option Nat
 | _,[]=>none
 | v,p::r=>match Lq p with
  | none=>none
  | some n=>match r with
   | []=>if n<2 ^ free then some (v*2 ^ free+n) else none
   | r=>if n<=255 then BQ free (v*256+n) r else none
def pnB (s:By):Option Nat:=if 4<(D1 s).length then none else BQ (8*(5-(D1 s).length)) 0 (D1 s)
def oct (s:By):Option Nat:=match G6 10 0 s with
 | some n=>if n<=255/\Lib.decDigits n=s then some n else none
 | none=>none
def RV:Nat->List By->Option Nat
 | v,[]=>some v
 | v,p::r=>match oct p with
  | some n=>RV (v*256+n) r
  | none=>none
def v4B (s:By):Option Nat:=if (pcs 46 s).length=4 then RV 0 (pcs 46 s) else none
def Kk (v:Nat):By:=Lib.decDigits (v / 16777216)++46::(Lib.decDigits (v / 65536 % 256)++46::(Lib.decDigits (v / 256 % 256)++46::Lib.decDigits (v % 256)))
def Ov:Nat->By->Option Nat
 | n,[]=>some n
 | n,b::r=>if dig b<16 then Ov (n*16+dig b) r else none
def grp (s:By):Option Nat:=if s=[]\/4<s.length then none else Ov 0 s
def Ji (last:Bool):List By->Option (List Nat)
 | []=>some []
 | x::r=>match grp x with
  | some v=>(Ji last r).map (v::·)
  | none=>match v4B x with
   | some v=>if last=true/\r=[] then some [v / 65536,v % 65536] else none
   | none=>none
def Aw (s:By) (last:Bool):Option (List Nat):=if s=[] then some [] else Ji last (pcs 58 s)
def v6B (s:By):Option (List Nat):=
 match Aw (Lib.cut s [58,58]).1 (!(Lib.cut s [58,58]).2.2),Aw (Lib.cut s [58,58]).2.1 true with
 | some x,some y=>if (Lib.cut s [58,58]).2.2 then (if x.length+y.length<=7 then some (x++List.replicate (8-x.length-y.length) 0++y) else none)
   else if x.length+y.length=8 then some (x++y) else none
 | _,_=>none
def To (l:List Nat):Nat:=(l.takeWhile (· == 0)).length
def zGo:List Nat->Nat->Nat->Nat->Nat × Nat
 | [],_,z,m=>(z,m)
 | x::r,i,z,m=>if m<To (x::r) then zGo r (i+1) i (To (x::r)) else zGo r (i+1) z m
def Wa (n:Nat):UInt8:=if n<10 then UInt8.ofNat (48+n) else UInt8.ofNat (87+n)
def X6 (v:Nat):By:=if h:v<16 then [Wa v] else X6 (v / 16)++[Wa (v % 16)]
 termination_by v
 decreasing_by omega
def Ay (l:List Nat):By:=Lib.join (l.map X6) [58]
def Vt (a:List Nat):By:=if (zGo a 0 0 0).2<2 then Ay a else Ay (a.take (zGo a 0 0 0).1)++58::58::Ay (a.drop ((zGo a 0 0 0).1+(zGo a 0 0 0).2))
def Ij (n:Nat):Bool:=Nat.ble n 1114111&&(Nat.blt n 55296 || Nat.blt 57343 n)
def Yv (d k:Nat):Nat:=if h:455<d then Yv (d / 35) (k+36) else k+36*d / (d+38)
 termination_by d
 decreasing_by omega
def Cr (delta count:Nat) (first:Bool):Nat:=
 let d:=if first then delta / 700 else delta / 2
 Yv (d+d / count) 0
def thr (k bias:Nat):Nat:=max 1 (min 26 (36*(k+1)-bias))
theorem Af (k bias:Nat):1<=thr k bias/\thr k bias<=26:=by unfold thr;omega
def Jf (d:Nat):UInt8:=if d<26 then UInt8.ofNat (97+d) else UInt8.ofNat (22+d)
def Ig (b:UInt8):Option Nat:=
 if 97<=b.toNat/\b.toNat<=122 then some (b.toNat-97) else if 65<=b.toNat/\b.toNat<=90 then some (b.toNat-65) else if 48<=b.toNat/\b.toNat<=57 then some (b.toNat-22) else none
def P9 (q k bias:Nat):By:=
 if h:q<thr k bias then [Jf q] else Jf (thr k bias+(q-thr k bias) % (36-thr k bias))::P9 ((q-thr k bias) / (36-thr k bias)) (k+1) bias
 termination_by q
 decreasing_by
  have:=Af k bias
  exact Nat.lt_of_le_of_lt (Nat.div_le_self _ _) (by omega)
structure UH where
 delta:Nat
 bias:Nat
 done:Nat
 out:By
def M5 (n basic:Nat):List Nat->UH->UH
 | [],s=>s
 | p::r,s=>if p<n then M5 n basic r { s with delta:=s.delta+1 }
  else if p=n then M5 n basic r { delta:=0,bias:=Cr s.delta (s.done+1) (s.done==basic),done:=s.done+1,out:=s.out++P9 s.delta 0 s.bias }
  else M5 n basic r s
def J7 (n:Nat):List Nat->Nat->Nat
 | [],m=>m
 | p::r,m=>J7 n r (if n<=p then min m p else m)
def U9 (pts:List Nat) (basic:Nat):Nat->Nat->UH->UH
 | 0,_,s=>s
 | f+1,n,s=>if s.done<pts.length then
   let m:=J7 n pts 1114112
   let s':=M5 m basic pts { s with delta:=s.delta+(m-n)*(s.done+1) }
   U9 pts basic f (m+1) { s' with delta:=s'.delta+1 }
  else s
def L6 (pts:List Nat):By:=(pts.filter (· < 128)).map UInt8.ofNat
def Gw (pts:List Nat):By × Nat:=
 if 256<pts.length then ([],3) else if !(pts.all Ij) then ([],2)
 else ((U9 pts (L6 pts).length 256 128 { delta:=0,bias:=72,done:=(L6 pts).length,out:=if (L6 pts).isEmpty then [] else L6 pts++[45] }).out,0)
def C6 (bias:Nat):By->Nat->Nat->Nat->Nat × By × Nat
 | [],i,w,k=>(0,[],4)
 | b::r,i,w,k=>match Ig b with
  | none=>(0,[],4)
  | some x=>if Gg<i+x*w then (0,[],19) else if x<thr k bias then (i+x*w,r,0)
   else if Gg<w*(36-thr k bias) then (0,[],19) else C6 bias r (i+x*w) (w*(36-thr k bias)) (k+1)
theorem So (bias:Nat):∀ (s:By) (i w k:Nat),(C6 bias s i w k).2.2=0->(C6 bias s i w k).2.1.length<s.length
 | [],i,w,k,h=>by simp [C6] at h
 | b::r,i,w,k,h=>by
  unfold C6 at h ⊢
  cases hv:Ig b with
  | none=>simp [hv] at h
  | some x=>
   simp only [hv] at h ⊢
   split at h
   ·simp at h
   ·rename_i h1
    rw [if_neg h1]
    split at h
    ·rename_i h2
     rw [if_pos h2]
     simp
    ·rename_i h2
     rw [if_neg h2]
     split at h
     ·simp at h
     ·rename_i h3
      rw [if_neg h3]
      have:=So bias r _ _ _ h
      simp only [List.length_cons]
      omega
def Ut (l:List Nat) (i n:Nat):List Nat:=l.take i++n::l.drop i
def P0 (s:By) (pts:List Nat) (n i bias:Nat) (first:Bool):List Nat × Nat:=
 if hs:s=[] then (pts,0) else
  let q:=C6 bias s i 1 0
  if hq:q.2.2=0 then
   let count:=pts.length+1
   let n':=n+q.1 / count
   if Ij n' then (if 256<count then ([],3) else P0 q.2.1 (Ut pts (q.1 % count) n') n' (q.1 % count+1) (Cr (q.1-i) count first) false)
   else ([],2)
  else ([],q.2.2)
 termination_by s.length
 decreasing_by exact So bias s i 1 0 hq
def N1:By->Nat
 | []=>0
 | b::r=>if 45∈r then N1 r+1 else 0
def S6 (s:By):List Nat × Nat:=
 if 1024<s.length then ([],3) else if s.any (λb=>Nat.ble 128 b.toNat) then ([],4)
 else if 256<N1 s then ([],3)
 else P0 (if N1 s=0 then s else s.drop (N1 s+1)) ((s.take (N1 s)).map (·.toNat)) 128 0 72 true
def Bm:Nat->By->Option (List Nat)
 | 0,_=>some []
 | f+1,l=>if l=[] then some [] else if (Lib.decodeL l).1=65533/\(Lib.decodeL l).2=1 then none else (Bm f (l.drop (Lib.decodeL l).2)).map ((Lib.decodeL l).1::·)
def Wd (s:By):Option (List Nat):=Bm s.length s
def Lk (s:By):Bool:=
 (S6 s).2==0 && !((S6 s).1.any λp=>Nat.ble 65 p&&Nat.ble p 90)&&((S6 s).1.any λp=>Nat.ble 128 p)&&(Gw (S6 s).1).2==0&&(Gw (S6 s).1).1==s
def U7 (b:UInt8):Bool:=(Nat.ble 97 b.toNat&&Nat.ble b.toNat 122) || (Nat.ble 48 b.toNat&&Nat.ble b.toNat 57) || b==45 || b==95
def xnB:By:=[120,110,45,45]
def N8 (s:By):Bool:=
 !s.isEmpty&&Nat.ble s.length 63&&s.getD 0 0 != 45&&s.getD (s.length-1) 0 != 45&&s.all U7&&(!(xnB.isPrefixOf s) || Lk (s.drop 4))
def O7 (s:By):By × Nat:=match Wd s with
 | none=>([],4)
 | some p=>if 256<p.length then ([],3)
  else if p.length<s.length then (match Wd (C0 s) with
   | none=>([],14)
   | some q=>if (Gw q).2=0 then (if N8 (xnB++(Gw q).1) then (xnB++(Gw q).1,0) else ([],14)) else ([],14))
  else if N8 (C0 s) then (C0 s,0) else ([],14)
def Y1:By->Option By
 | []=>some []
 | b::r=>if b=37 then (match r with
   | x::y::r'=>if dig x<16/\dig y<16 then (Y1 r').map (UInt8.ofNat (16*dig x+dig y)::·) else none
   | _=>none)
  else (Y1 r).map (b::·)
structure B3 where
 kind:Nat
 name:By
 v4:Nat
 v6:List Nat
 deriving DecidableEq
def z8:List Nat:=[0,0,0,0,0,0,0,0]
def K7:B3:=⟨0,[],0,z8⟩
def I7:List By->List By × Nat
 | []=>([],0)
 | x::r=>if (O7 x).2=0 then ((O7 x).1::(I7 r).1,(I7 r).2) else ([],(O7 x).2)
def L0 (s:By):By:=if s.getLast? = some 46 then s.dropLast else s
def F9 (s:By):B3 × Nat:=
 if 1024<s.length then (K7,3)
 else if s.head? = some 91 then (if s.getLast? = some 93/\2<=s.length then (match v6B ((s.take (s.length-1)).drop 1) with
   | some a=>(⟨3,[],0,a⟩,0)
   | none=>(K7,14)) else (K7,14))
 else match Y1 s with
  | none=>(K7,14)
  | some t=>if K5 (L0 t) then (match pnB (L0 t) with
    | some v=>(⟨2,[],v,z8⟩,0)
    | none=>(K7,14))
   else if (I7 (pcs 46 (L0 t))).2=0 then (
    let name:=Lib.join (I7 (pcs 46 (L0 t))).1 [46]
    if 253<name.length then (K7,3) else if K5 name then (K7,14) else (⟨1,name,0,z8⟩,0))
   else (K7,(I7 (pcs 46 (L0 t))).2)
def V5 (s:By):Bool:=Nat.ble s.length 253 && !(K5 s)&&(pcs 46 s).all N8
def L1 (h:B3):Bool:=
 if h.kind=1 then V5 h.name&&h.v4==0&&h.v6==z8 else if h.kind=2 then h.name.isEmpty&&h.v6==z8 else if h.kind=3 then h.name.isEmpty&&h.v4==0 else false
def Ih (h:B3):By:=if L1 h then (if h.kind=1 then h.name else if h.kind=2 then Kk h.v4 else 91::(Vt h.v6++[93])) else []
def Ke:List By->List By
 | []=>[]
 | [_]=>[]
 | _::r=>Lib.join r [46]::Ke r
def Qp (s:By):List By:=if V5 s then Ke (pcs 46 s) else []
def Oi (a b:By):Bool:=V5 a&&V5 b&&(a==b || (46::a).isSuffixOf b)
def A2 (n:Nat):Bool:=decide (n<=1000000000)
theorem GB {n:Nat}:A2 n=true↔n<=1000000000:=by simp [A2]
def isS:List SV->Bool | [.str _]=>true | _=>false
def elS (el:List SV):By:=(el.getD 0 .nilp).gS
def Az (o:Option Nat):Nat:=o.getD 0
def u8n (c:Int):UInt8:=UInt8.ofNat c.toNat
def MY (s p:By):By:=if p.isSuffixOf s then s.take (s.length-p.length) else s
def Dd (s p:By):By:=if p.isPrefixOf s then s.drop p.length else s
def ltN (v:Int) (n:Nat):Bool:=match v with
 | .ofNat m=>Nat.ble (m+1) n
 | .negSucc _=>false
theorem D2 {v:Int} {n:Nat}:ltN v n=true↔0<=v/\v<(n:Int):=by
 cases v with
 | ofNat m=>
  simp only [ltN,Nat.ble_eq,Int.ofNat_eq_natCast]
  omega
 | negSucc m=>
  refine ⟨λh=>(by cases h),λh=>?_⟩
  have:=Int.negSucc_lt_zero m
  omega
def T7 (n:Int):Bool:=ltN (n+9223372036854775808) 18446744073709551616
theorem AN {n:Int}:T7 n=true↔-9223372036854775808<=n/\n<9223372036854775808:=by
 unfold T7
 rw [D2]
 constructor<;>rintro ⟨h1,h2⟩<;>constructor<;>omega
def B77 (b:Nat):List PV->Tr
 | [.s (.int .i64 n)]=>.need (ltN n b) (.ret (.s (.str (Lib.decDigits (Int.toNat n)))) [])
 | _=>.fail
def gvs (s:By) (last:Bool):List Nat:=(Aw s last).getD []
def v6c (i:Nat) (s:By):Nat:=((v6B s).getD z8).getD i 0
def n8 (a b c d e f g h:Int):List Nat:=[a.toNat,b.toNat,c.toNat,d.toNat,e.toNat,f.toNat,g.toNat,h.toNat]
def ok8 (a b c d e f g h:Int):Bool:=[a,b,c,d,e,f,g,h].all λx=>ltN x 65536
def Pe:List SV->Bool | [.int .u16 n]=>ltN n 65536 | _=>false
def elN (el:List SV):Nat:=(el.getD 0 .nilp).gI.toNat
def ptI (n:Int):Bool:=match n with | .ofNat m=>Ij m | .negSucc _=>false
def H8 (b:UInt8):Int:=match Ig b with | some n=>n | none=>-1
def U4 (k b:Int):Int:=max 1 (min 26 (k+36-b))
def Uv:List SV->Bool | [.int .i64 _]=>true | _=>false
def elI (el:List SV):Int:=(el.getD 0 .nilp).gI
def Ec (l:List Int):By × Nat:=if 256<l.length then ([],3) else if l.all ptI then Gw (l.map Int.toNat) else ([],2)
def Fu (b:Int):By->Int->Int->Int->Int × By × Int
 | [],i,w,k=>(4,[],i)
 | c::r,i,w,k=>if H8 c<0 then (4,c::r,i) else if 1099511627776<i+H8 c*w then (19,r,i+H8 c*w)
  else if H8 c<U4 k b then (0,r,i+H8 c*w) else if 1099511627776<w*(36-U4 k b) then (19,r,i+H8 c*w)
  else Fu b r (i+H8 c*w) (w*(36-U4 k b)) (k+36)
def BC (b:Int) (s:By) (i:Int):Int:=(Fu b s i 1 0).1
def BE (b:Int) (s:By) (i:Int):By:=(Fu b s i 1 0).2.1
def Nj (b:Int) (s:By) (i:Int):Int:=(Fu b s i 1 0).2.2
def He (l:List (List SV)) (i:Nat) (n:Int):List (List SV):=l.take i++[SV.int .i64 n]::l.drop i
structure DS where
 rest:By
 n:Int
 i:Int
 b:Int
 st:Bool
 l:List (List SV)
def C9 (s:DS):Int × DS:=
 if BC s.b s.rest s.i=0 then
  let c:Int:=s.l.length+1
  let x:=Nj s.b s.rest s.i
  let d:DS:={ rest:=BE s.b s.rest s.i,n:=s.n+Int.tdiv x c,i:=Int.tmod x c,b:=Cr (x-s.i).toNat c.toNat (!s.st),st:=true,l:=s.l }
  if ptI d.n then (if 256<c then (3,d) else (0,{ d with i:=d.i+1,l:=He s.l d.i.toNat d.n })) else (2,d)
 else (BC s.b s.rest s.i,{ s with rest:=BE s.b s.rest s.i,i:=Nj s.b s.rest s.i })
def H9 (c:UInt8):By->Int
 | []=>-1
 | b::r=>if H9 c r<0 then (if b=c then 0 else -1) else H9 c r+1
def ZN (l:List Nat):List (List SV):=l.map λx:Nat=>[SV.int .i64 (x:Int)]
def Sp (b:UInt8):Int:=if dig b<16 then dig b else -1
def ZZ (s:By):By:=(Y1 s).getD []
def M9 (s:By):B3 × Nat:=if s.getLast? = some 93/\2<=s.length then (match v6B ((s.take (s.length-1)).drop 1) with
 | some a=>(⟨3,[],0,a⟩,0)
 | none=>(K7,14)) else (K7,14)
def mkH (kd:Int) (nm:By) (v4:Int) (a:List Nat):B3:=⟨if ltN kd 4 then kd.toNat else 0,nm,v4.toNat,a⟩
def Q1 (n:Int) (l:List By):Bool:=l.all λs=>!(ltI n (s.length:Int))
def Bc9 (s:By):Bool:=([91]:By).isPrefixOf s
attribute [simp] D8 I3 M4 NJ Ap5 Ap4 NK Hp O6 I9
attribute [simp] vl
@[simp] theorem E2 {n:Nat} (h:n<=1000000000):A2 n=true:=GB.2 h
@[simp] theorem Vb {v:Int} {n:Nat} (h:0<=v) (h1:v<n):ltN v n=true:=D2.2 ⟨h,h1⟩
theorem G2 {n:Nat} (h:n<=1000000000:=by omega):A2 n=true:=E2 h
theorem Z1 {v:Int} {n:Nat} (h:0<=v:=by omega) (g:v<n:=by omega):ltN v n=true:=Vb h g
@[simp] theorem O8 {m n:Nat} (h:m+n<4611686018427387904):N0 m n=true:=by simp [N0,h]
abbrev rv (v:PV) (H:List Blk):Option (PV × List Blk × Unit):=some (v,H,())
theorem N5 {n:Nat} (h:A2 n=true):n<=1000000000:=GB.1 h
theorem M8 (s:By) (i:Nat) (h:i<s.length):s.drop i=s.getD i 0::s.drop (i+1):=by
 rw [List.getD_eq_getElem?_getD,List.getElem?_eq_getElem h,Option.getD_some,List.getElem_cons_drop]
theorem A17 (s:By) (i:Nat) (h:i<s.length):s.take (i+1)=s.take i++[s.getD i 0]:=by
 rw [List.take_add_one,List.getD_eq_getElem?_getD,List.getElem?_eq_getElem h]
 rfl
theorem ZD (s:By) (i:Nat) (h:i<s.length):(C0 (s.take (i+1))).map G0=(C0 (s.take i)).map G0++[G0 (X1 (s.getD i 0))]:=by
 unfold C0
 rw [A17 s i h,List.map_append,List.map_append]
 rfl
theorem P2 (b:UInt8):(b.toNat<65/\X1 b=b)\/(90<b.toNat/\X1 b=b)\/(65<=b.toNat/\b.toNat<=90/\((X1 b).toNat=b.toNat+32)):=by
 unfold X1
 by_cases h1:b.toNat<65
 ·refine .inl ⟨h1,if_neg ?_⟩
  intro h
  have:=UInt8.le_iff_toNat_le.1 h.1
  simp at this
  omega
 ·by_cases h2:90<b.toNat
  ·refine .inr (.inl ⟨h2,if_neg ?_⟩)
   intro h
   have:=UInt8.le_iff_toNat_le.1 h.2
   simp at this
   omega
  ·refine .inr (.inr ⟨by omega,by omega,?_⟩)
   rw [if_pos (by constructor<;>(rw [UInt8.le_iff_toNat_le];simp;omega)),UInt8.toNat_add]
   simp
   omega
@[simp] theorem K6 (s:By) (i:Nat):bAt s (i:Int)=((s.getD i 0).toNat:Int):=by simp [bAt]
@[simp] theorem Ob (s:By):bAt s 0=((s.getD 0 0).toNat:Int):=by simp [bAt]
@[simp] theorem Cn5 (s:By):bAt s 1=((s.getD 1 0).toNat:Int):=by simp [bAt]
theorem Wq {α:Type} (s:List α) (a b:Nat):cut s (a:Int) (b:Int)=(s.take b).drop a:=by simp [cut]
@[simp] theorem Aj {α:Type} (s:List α) (a:Int):cut s a (s.length:Int)=s.drop a.toNat:=by simp [cut]
@[simp] theorem U1 {α:Type} (s:List α) (b:Int):cut s 0 b=s.take b.toNat:=by simp [cut]
@[simp] theorem E1 (l:List By):(C5 l).length=l.length:=by simp [C5]
@[simp] theorem Ak (l:List By) (i:Nat):gX (C5 l) i 0=l.getD i []:=by
 unfold gX gC C5
 by_cases h:i<l.length
 ·simp [List.getD_eq_getElem?_getD,List.getElem?_eq_getElem h,SV.gS]
 ·simp [List.getD_eq_getElem?_getD,List.getElem?_eq_none (show l.length<=i by omega),SV.gS]
@[simp] theorem U2 {l:List By} {i:Nat} (h:i<l.length):okE Qq (C5 l) i 0=true:=by
 unfold okE C5
 simp [List.getD_eq_getElem?_getD,List.getElem?_eq_getElem h,h,Qq,okS,SV.has]
theorem TN (a b:List By):C5 (a++b)=C5 a++C5 b:=by simp [C5]
theorem NB (b:UInt8):u8n (b.toNat:Int)=b:=by simp [u8n]
theorem Ce8 (b:UInt8):inR (b.toNat:Int) 256=true:=by
 have:=b.toNat_lt
 exact J2
theorem Cm6 {a b:UInt8}:((a.toNat:Int)==(b.toNat:Int))=(a==b):=by
 rw [Bool.eq_iff_iff]
 simp only [beq_iff_eq]
 constructor
 ·intro h;exact UInt8.toNat_inj.1 (by omega)
 ·intro h;rw [h]
theorem Np (a:UInt8) (n:Nat) (h:n<256):((a.toNat:Int)==(n:Int))=(a==UInt8.ofNat n):=by
 rw [<-Cm6]
 simp [Nat.mod_eq_of_lt h]
theorem Bg (p s:By):p.isPrefixOf s=(decide (p.length<=s.length)&&(s.take p.length==p)):=by
 rw [Bool.eq_iff_iff]
 simp only [List.isPrefixOf_iff_prefix,Bool.and_eq_true,decide_eq_true_eq,beq_iff_eq]
 constructor
 ·intro h;exact ⟨h.length_le,(List.prefix_iff_eq_take.1 h).symm⟩
 ·rintro ⟨_,h⟩;exact List.prefix_iff_eq_take.2 h.symm
theorem Hz (p s:By):p.isSuffixOf s=(decide (p.length<=s.length)&&(s.drop (s.length-p.length)==p)):=by
 rw [Bool.eq_iff_iff]
 simp only [List.isSuffixOf_iff_suffix,Bool.and_eq_true,decide_eq_true_eq,beq_iff_eq]
 constructor
 ·intro h;exact ⟨h.length_le,(List.suffix_iff_eq_drop.1 h).symm⟩
 ·rintro ⟨_,h⟩;exact List.suffix_iff_eq_drop.2 h.symm
end
section
open Go Go.ChangeAt Go.ChangeShapes Go.Proofs Go.RowKit Go.WideShapes
set_option maxRecDepth 100000
theorem own:ownKnob Tryz.prog.godebug=none:=by kernel_rfl
theorem Bw8:laidOutB Tryz.prog=true:=by kernel_rfl
noncomputable def gTy (g:Nat):Nat:=match Tryz.prog.globals[g]? with | some x=>x.type | none=>0
noncomputable def dbT:Nat:=gTy 5
noncomputable def B06:Nat:=gTy 3
noncomputable def JC:Nat:=gTy 2
noncomputable def Bt3:Nat:=gTy 1
noncomputable def JB:Nat:=match Tryz.prog.underlying JC with | some (.array _ e)=>e | _=>0
noncomputable def Rv:Array Field:=match Tryz.prog.underlying JB with | some (.struct fs)=>fs | _=>#[]
noncomputable def DR:Field:=match Rv.toList with | a::_=>a | _=>default
noncomputable def DT:Field:=match Rv.toList with | _::a::_=>a | _=>default
theorem Ca0:Rv[0]? = some DR:=by unfold DR Rv JB JC gTy;kernel_rfl
theorem Ca1:Rv[1]? = some DT:=by unfold DT Rv JB JC gTy;kernel_rfl
def Bk:List (String × DataW Unit):=[("math/bits.deBruijn32tab", Rows.laid_math_bits_deBruijn32tab), ("math/bits.deBruijn64tab", Rows.laid_math_bits_deBruijn64tab), ("internal/strconv.uint64pow10", Rows.laid_internal_strconv_uint64pow10), ("unicode/utf8.acceptRanges", Rows.laid_unicode_utf8_acceptRanges), ("unicode/utf8.first", Rows.laid_unicode_utf8_first)]
theorem GI {W:World} {n:String} {g:Nat} {cs:Array Value} (hg:Tryz.prog.globalNamed n=some g) (h:W.var? Tryz.prog n=some cs):∃ e x,W.heap[g]? = some (.cells cs e x):=by
 unfold World.var? at h
 rw [hg,Option.bind_some] at h
 split at h
 ·rename_i c e x hh
  simp only [Option.some.injEq] at h
  subst h
  exact ⟨e,x,hh⟩
 ·cases h
theorem Tt {W:World} {n:String} {g t e m:Nat} {k:IntKind} {zs:List Int} (hg:Tryz.prog.globalNamed n=some g) (hty:(Tryz.prog.globals[g]?).map (·.type)=some t) (ht:Tryz.prog.underlying t=some (.array m e)) (he:Tryz.prog.underlying e=some (.int k)) (hce:Tryz.prog.cellsOf e=1) (hct:Tryz.prog.cellsOf t=m)
  (h:Lib.VarReads Tryz.prog W n (Lib.tabData k zs)):∃ e x,W.heap[g]? = some (.cells (zs.map λz=>Value.int k z).toArray e x):=by
 obtain ⟨g',t',cs,fuel,p,h1,h2,h3,h4⟩:=h
 obtain rfl:=Option.some.inj (hg.symm.trans h1)
 obtain rfl:=Option.some.inj (hty.symm.trans h2)
 have hcs:=Lib.cells_of_tab ht he hce hct h4
 have:cs=(zs.map λz=>Value.int k z).toArray:=by rw [<-hcs]
 rw [this] at h3
 exact GI hg h3
theorem CM {H:Type} {enc:TypeId × Value->H} {P:Program} {w:World} {base:Nat} {sp:Nat->Bool} {held:Bool} {fuel:Nat} {t e:TypeId} {n:Nat} {cs:List Value} {d:DataW H} {p:List MemPlace} (ht:P.underlying t=some (.array n e))
  (h:DataW.trod enc P w base sp held fuel t cs=some (d,p)):cs.length=P.cellsOf t:=by
 cases fuel with
 | zero=>simp [DataW.trod] at h
 | succ fuel=>
  simp only [DataW.trod,ht] at h
  split at h
  ·rename_i hl
   simpa using hl
  ·cases h
theorem Aq3 {W:World} (hg : Tryz.prog.globalNamed "unicode/utf8.acceptRanges" = some 2) (h:Lib.VarReads Tryz.prog W "unicode/utf8.acceptRanges" Lib.acceptData) :
  ∃ e x,W.heap[2]? = some (.cells (Cq.map λz=>Value.int .u8 z).toArray e x):=by
 obtain ⟨g',t,cs,fuel,p,h1,h2,h3,h4⟩:=h
 obtain rfl:=Option.some.inj (hg.symm.trans h1)
 have hty:(Tryz.prog.globals[2]?).map (·.type)=some JC:=by unfold JC;kernel_rfl
 obtain rfl:=Option.some.inj (hty.symm.trans h2)
 have ht:Tryz.prog.underlying JC=some (.array 16 JB):=by unfold JC JB;kernel_rfl
 have hl:=CM ht h4
 have hct:Tryz.prog.cellsOf JC=32:=by unfold JC;kernel_rfl
 have hce:Tryz.prog.cellsOf JB=2:=by unfold JB;kernel_rfl
 have hu:∃ fs,Tryz.prog.underlying JB=some (.struct fs)/\fs.size=2/\∀ (i:Nat) (f:Field),fs[i]? = some f->Tryz.prog.underlying f.type=some (.int .u8)/\f.offset=i/\Tryz.prog.cellsOf f.type=1:=by
  refine ⟨Rv,by unfold JB Rv;kernel_rfl,by unfold Rv;kernel_rfl,λi f hf=>?_⟩
  have:i<2:=by
   have:=(Array.getElem?_eq_some_iff.1 hf).1
   rwa [show Rv.size=2 by unfold Rv;kernel_rfl] at this
  match i,this with
  | 0,_=>
   obtain rfl:=Option.some.inj (hf.symm.trans (show Rv[0]? = some DR from Ca0))
   exact ⟨by unfold DR;kernel_rfl,by unfold DR;kernel_rfl,by unfold DR;kernel_rfl⟩
  | 1,_=>
   obtain rfl:=Option.some.inj (hf.symm.trans (show Rv[1]? = some DT from Ca1))
   exact ⟨by unfold DT;kernel_rfl,by unfold DT;kernel_rfl,by unfold DT;kernel_rfl⟩
 obtain ⟨fs,hu1,hu2,hu3⟩:=hu
 have hcs:cs.toList=Cq.map λz=>Value.int .u8 z:=by
  have hlen:(Cq.map λz=>Value.int .u8 z).length=32:=by rw [List.length_map];rfl
  apply List.ext_getElem?
  intro q
  by_cases hq:q<32
  ·obtain ⟨fuel',d,q',hdi,he⟩:=Lib.array_elem ht h4 (q / 2) (by omega)
   simp only [List.getElem?_map,List.getElem?_range (show q / 2<16 by omega),Option.map_some,Option.some.injEq] at hdi
   subst hdi
   rw [hce] at he
   have hz:=Lib.ints_of_struct hu1 hu3 (by rw [hce,hu2]) he
   have e0:=congrArg (·[q % 2]?) hz
   simp only [List.getElem?_take,List.getElem?_drop] at e0
   rw [Bj,show q / 2*2+q % 2=q by omega] at e0
   rw [e0]
   unfold Cq
   have er:∀ g:Nat->Value,(List.map g (List.range 32))[q]? = some (g q):=λg=>by
    rw [List.getElem?_map,List.getElem?_range hq]
    rfl
   rw [List.map_map,er]
   rcases Nat.mod_two_eq_zero_or_one q with h2 | h2
   ·simp [h2]
   ·simp [h2]
  ·rw [List.getElem?_eq_none (by omega),List.getElem?_eq_none (by omega)]
 have:cs=(Cq.map λz=>Value.int .u8 z).toArray:=by rw [<-hcs]
 rw [this] at h3
 exact GI hg h3
theorem YE {C:Cfg} (hC:C.G=GX) {W:World} (hL:laidMet Tryz.prog Bk W) (hsh:W.ShapedOpen Tryz.prog):GOK C (· < W.heap.size) W:=by
 have lt:∀ {g:Nat} {o:Obj},W.heap[g]? = some o->g<W.heap.size:=λh=>(Array.getElem?_eq_some_iff.1 h).1
 have r1:Lib.VarReads Tryz.prog W "math/bits.deBruijn64tab" (Lib.tabData .u8 (Lib.deBruijn64tab.map λn:Nat=>(n:Int))):=Lib.laidMet.reads hL (by rw [show (Lib.tabData .u8 (Lib.deBruijn64tab.map λn:Nat=>(n:Int)):DataW Unit)=Rows.laid_math_bits_deBruijn64tab by kernel_rfl];simp [Bk])
 have r2:Lib.VarReads Tryz.prog W "internal/strconv.uint64pow10" (Lib.tabData .u64 Lib.pow10Tab):=Lib.laidMet.reads hL (by rw [show (Lib.tabData .u64 Lib.pow10Tab:DataW Unit)=Rows.laid_internal_strconv_uint64pow10 by kernel_rfl];simp [Bk])
 have r3:Lib.VarReads Tryz.prog W "unicode/utf8.acceptRanges" Lib.acceptData:=Lib.laidMet.reads hL (by rw [show Lib.acceptData=Rows.laid_unicode_utf8_acceptRanges by kernel_rfl];simp [Bk])
 have r4:Lib.VarReads Tryz.prog W "unicode/utf8.first" (Lib.tabData .u8 Lib.firstTab):=Lib.laidMet.reads hL (by rw [show (Lib.tabData .u8 Lib.firstTab:DataW Unit)=Rows.laid_unicode_utf8_first by kernel_rfl];simp [Bk])
 have c1:=Tt (g:=5) (t:=dbT) (e:=5) (m:=64) (by kernel_rfl) (by unfold dbT;kernel_rfl) (by unfold dbT;kernel_rfl) (by kernel_rfl) (by kernel_rfl) (by unfold dbT;kernel_rfl) r1
 have c2:=Tt (g:=3) (t:=B06) (e:=181) (m:=20) (by kernel_rfl) (by unfold B06;kernel_rfl) (by unfold B06;kernel_rfl) (by kernel_rfl) (by kernel_rfl) (by unfold B06;kernel_rfl) r2
 have c3:=Aq3 (by kernel_rfl) r3
 have c4:=Tt (g:=1) (t:=Bt3) (e:=5) (m:=256) (by kernel_rfl) (by unfold Bt3;kernel_rfl) (by unfold Bt3;kernel_rfl) (by kernel_rfl) (by kernel_rfl) (by unfold Bt3;kernel_rfl) r4
 have c5:=cell_of_shapedOpen_int (k:=.i64) (g:=0) (t:=3) (zero:=#[.int .i64 0]) hsh (of_decide_eq_true (by kernel_rfl)) (by kernel_rfl) rfl (by kernel_rfl) (by kernel_rfl) (by kernel_rfl)
 refine ⟨λg k zs h=>?_,λg h=>?_⟩
 ·rw [hC] at h
  simp only [GX] at h
  have key:∀ {g0:Nat} {k0:IntKind} {zs0:List Int},(∃ e x,W.heap[g0]? = some (.cells (zs0.map λz=>Value.int k0 z).toArray e x))->g=g0->(k0,zs0)=(k,zs)->g<W.heap.size/\∃ e x,W.heap[g]? = some (.cells (zs.map λz=>Value.int k z).toArray e x):=λhx e1 e2=>by
   subst e1
   cases e2
   obtain ⟨e,x,hx⟩:=hx
   exact ⟨lt hx,e,x,hx⟩
  cases b1:Nat.beq g 1 with
  | true=>rw [b1,cond_true] at h;exact key c4 (Nat.eq_of_beq_eq_true b1) (Option.some.inj h)
  | false=>
   rw [b1,cond_false] at h
   cases b2:Nat.beq g 2 with
   | true=>rw [b2,cond_true] at h;exact key c3 (Nat.eq_of_beq_eq_true b2) (Option.some.inj h)
   | false=>
    rw [b2,cond_false] at h
    cases b3:Nat.beq g 3 with
    | true=>rw [b3,cond_true] at h;exact key c2 (Nat.eq_of_beq_eq_true b3) (Option.some.inj h)
    | false=>
     rw [b3,cond_false] at h
     cases b4:Nat.beq g 5 with
     | true=>rw [b4,cond_true] at h;exact key c1 (Nat.eq_of_beq_eq_true b4) (Option.some.inj h)
     | false=>rw [b4,cond_false] at h;cases h
 ·rw [hC] at h
  have e:=Nat.eq_of_beq_eq_true h
  subst e
  obtain ⟨m,hm⟩:=c5
  refine ⟨?_,m,hm⟩
  apply Classical.byContradiction
  intro hge
  simp [World.cell?,Array.getElem?_eq_none (Nat.le_of_not_lt hge)] at hm
theorem Te (os:Os) (args:Array Value):((World.laidAll Tryz.prog os Bk).forCall (λ_ _=>0) ⟨#[],args,[]⟩).Shaped Tryz.prog:=
 World.shaped_of_ZipB (by kernel_rfl) (by kernel_rfl)
theorem DD (os:Os) (args:Array Value):laidMetH Tryz.prog Bk ((World.laidAll Tryz.prog os Bk).forCall (λ_ _=>0) ⟨#[],args,[]⟩).memory:=by
 rw [MakeChecks.laidMetH_plain _ _ _ (by kernel_rfl)]
 exact laidMet_laidAll _ (by kernel_rfl) (by kernel_rfl)
theorem YT {H:Type} {enc:TypeId × Value->H} {os:Os} (started:os.Started) {C:Cfg} (hCP:C.P=Tryz.prog) (hCG:C.G=GX) (hX:XOK C) (hO:Fp C) {f tb:Nat} {fn:Func} {c:Code} {s:ChangeSpec} {conds:List PathCond} {apart fresh handsOn again:Bool} (noInit:Tryz.prog.inits.idxOf? f=none) (hfn:Tryz.prog.funcs[f]? = some fn) (hb:fn.body=some c) (hname:(fn.name == "runtime.NumGoroutine")=false)
  (hp:∀ t∈fn.params.toList,(Tryz.prog.readableRec t=true/\t<Tryz.prog.types.size)/\(Bq Tryz.prog 20 t).isSome=true) (hres:fn.resultTypes = #[tb]) (hbool:Tryz.prog.underlying tb=some .bool) (hvars:s.vars=[])
  (hspec:∀ ds:List (DataW H),ds.length=fn.params.toList.length->s.fn H ds = { results:=[.lit (.bool true)],args:=ds })
  (wit:Array Value) (fuel:Nat) (hok:Input.okWideB Tryz.prog ((World.laidAll Tryz.prog os Bk).forCall (λ_ _=>0) ⟨#[],wit,[]⟩) f ⟨#[],wit,[]⟩=true)
  (Wb:s.preB enc Tryz.prog fn conds apart ((World.laidAll Tryz.prog os Bk).forCall (λ_ _=>0) ⟨#[],wit,[]⟩).memory wit fuel=true)
  (hsz:s.sizedB enc Tryz.prog fn apart ((World.laidAll Tryz.prog os Bk).forCall (λ_ _=>0) ⟨#[],wit,[]⟩).memory wit fuel=true)
  (hev:∀ args,Gm Tryz.prog fn.params.toList args->∃ d Hc,evC C d Unit noY f args [] ()=some (.s (.bool true),Hc,())) :
  ReturnsInHanded {} Tryz.checked os f .any (λw args=>(s.pre enc Tryz.prog fn conds apart w args/\laidMetH Tryz.prog Bk w)/\sizedMet enc Tryz.prog fn (OpenSpec.ofChange s) apart w args) (s.post enc Tryz.prog fn apart fresh handsOn again):=by
 obtain ⟨P,G,X,lend,okf,lf,keep,keepR,xp,keepE,keepT,Y,S,nt,rw0⟩:=C
 simp only at hCP hCG
 subst hCP
 refine returnsInHanded_of_calls (C:=Tryz.checked) own started noInit
  (ChangeSpec.witness_shaped (enc:=enc) (C:=Tryz.checked) (os:=os) (X:=λw _=>laidMetH Tryz.prog Bk w) false (World.laidAll Tryz.prog os Bk) wit fuel (World.laidAll_os _ _ _) (Te os wit) hok Wb hsz (DD os wit)) ?_
 intro w tape i _ hsh _ hok Wb hholds
 obtain ⟨_,_,_,fn',hfn',_,_,_,_,Ii⟩:=hok
 have e:fn'=fn:=Option.some.inj (hfn'.symm.trans hfn)
 subst e
 obtain ⟨⟨⟨ds,gs,before,hw,hc⟩,hx⟩,hz⟩:=Wb
 have hw':=DataW.Whole.of_heap (w':=w.forCall tape i) (by rfl) hw
 have hL:laidMet Tryz.prog Bk (w.forCall tape i):=by
  rw [MakeChecks.laidMetH_plain _ _ _ (by kernel_rfl)] at hx
  exact laidMet.of_heap (w':=w.forCall tape i) (by rfl) hx
 refine (A91 (apart:=apart) (fresh:=fresh) (handsOn:=handsOn) (again:=again) hX hO follows Bw8 hfn hb hname hp hres hbool hvars hspec hev (w.forCall tape i) (YE hCG hL hsh) w.heap.size i.args ds gs before Ii hw').mono λe W' ⟨v,he,hp⟩=>?_
 subst he
 exact ChangeSpec.post_blind hp
end
section
open Go Go.Proofs
set_option maxRecDepth 100000
section
def Mi:List PV->Tr
 | [.s (.str s),.s (.str p),.s (.int .i64 v),.s (.int .i64 n)]=>.need (A2 (List.length s)) (.need ((List.length p)==1) (.need (v==(0:Int)) (.need (n==((-1):Int)) (.ret (.vw 0 0 (List.length (pcs (List.getD p 0 0) s))) [.arr false 9 1 (C5 (pcs (List.getD p 0 0) s))]))))
 | _=>.fail
def Re (args:List PV):Tr:=Mi (C1 [[0],[0],[0],[0]] args)
def Mm:List PV->Tr
 | [.s (.str s),.s (.str p)]=>.need (A2 (List.length s)) (.need ((List.length p)==1) (.ret (.vw 0 0 (List.length (pcs (List.getD p 0 0) s))) [.arr false 9 1 (C5 (pcs (List.getD p 0 0) s))]))
 | _=>.fail
def DQ (args:List PV):Tr:=Mm (C1 [[0],[0]] args)
def HV:List PV->Tr
 | [.s (.str s),.s (.str p)]=>.need (A2 (List.length s)) (.ret (.s (.bool (List.isPrefixOf p s))) [])
 | _=>.fail
def HU (args:List PV):Tr:=HV (C1 [[0],[0]] args)
def HG:List PV->Tr
 | [.s (.str s),.s (.str p)]=>.need (A2 (List.length s)) (.ret (.s (.bool (List.isPrefixOf p s))) [])
 | _=>.fail
def Xn (args:List PV):Tr:=HG (C1 [[0],[0]] args)
def HY:List PV->Tr
 | [.s (.str s),.s (.str p)]=>.need (A2 (List.length s)) (.ret (.s (.bool (List.isSuffixOf p s))) [])
 | _=>.fail
def UR (args:List PV):Tr:=HY (C1 [[0],[0]] args)
def HH:List PV->Tr
 | [.s (.str s),.s (.str p)]=>.need (A2 (List.length s)) (.ret (.s (.bool (List.isSuffixOf p s))) [])
 | _=>.fail
def A55 (args:List PV):Tr:=HH (C1 [[0],[0]] args)
def Xz:List PV->Tr
 | [.s (.str s),.s (.str p)]=>.need (A2 (List.length s)) (.ret (.s (.str (MY s p))) [])
 | _=>.fail
def Ai4 (args:List PV):Tr:=Xz (C1 [[0],[0]] args)
def Yp:List PV->Tr
 | [.s (.str s),.s (.str p)]=>.need (A2 (List.length s)) (.ret (.s (.str (MY s p))) [])
 | _=>.fail
def Aj1 (args:List PV):Tr:=Yp (C1 [[0],[0]] args)
def Xt:List PV->Tr
 | [.s (.str s),.s (.str p)]=>.need (A2 (List.length s)) (.ret (.tup [.s (.str (Dd s p)),.s (.bool (List.isPrefixOf p s))]) [])
 | _=>.fail
def Ai0 (args:List PV):Tr:=Xt (C1 [[0],[0]] args)
def GP:List PV->Tr
 | [.s (.str s),.s (.str p)]=>.need (A2 (List.length s)) (.ret (.tup [.s (.str (Dd s p)),.s (.bool (List.isPrefixOf p s))]) [])
 | _=>.fail
def UJ (args:List PV):Tr:=GP (C1 [[0],[0]] args)
def IP:List PV->Tr
 | [.s (.str s),.s (.str p)]=>.need (A2 (List.length s)) (.ret (.s (.int .i64 (Lib.index s p))) [])
 | _=>.fail
def Yg (args:List PV):Tr:=IP (C1 [[0],[0]] args)
def IN:List PV->Tr
 | [.s (.str s),.s (.str p)]=>.need ((List.length p)==1) (.ret (.s (.int .i64 (↑(List.count (List.getD p 0 0) s):Int))) [])
 | _=>.fail
def UY (args:List PV):Tr:=IN (C1 [[0],[0]] args)
def Xj:List PV->Tr
 | [.s (.str s),.s (.int .i64 n)]=>.fail
 | _=>.fail
def Fq (args:List PV):Tr:=Xj (C1 [[0],[0]] args)
def Rd:List PV->Tr
 | [.s (.str s),.s (.str p),.s (.int .i64 v),.s (.int .i64 n)]=>.need (A2 (List.length s)) (.need ((List.length p)==1) (.need (v==(0:Int)) (.need (n==((-1):Int)) (.ret (.s (.sl false false 1 (C5 (pcs (List.getD p 0 0) s)))) []))))
 | _=>.fail
def NX (args:List PV):Tr:=Rd (C1 [[0],[0],[0],[0]] args)
def Ro:List PV->Tr
 | [.s (.str s),.s (.str p)]=>.need (A2 (List.length s)) (.need ((List.length p)==1) (.ret (.s (.sl false false 1 (C5 (pcs (List.getD p 0 0) s)))) []))
 | _=>.fail
def Ny (args:List PV):Tr:=Ro (C1 [[0],[0]] args)
def HN:List PV->Tr
 | [.s (.int .i64 n)]=>.need (ltN n 4294967296) (.ret (.s (.str (Lib.decDigits (Int.toNat n)))) [])
 | _=>.fail
def UO (args:List PV):Tr:=HN (C1 [[0]] args)
def HT:List PV->Tr
 | [.s (.str s)]=>.need (A2 (List.length s)) (.ret (.s (.str (C0 s))) [])
 | _=>.fail
def UQ (args:List PV):Tr:=HT (C1 [[0]] args)
def HD:List PV->Tr
 | [.s (.str s)]=>.need (A2 (List.length s)) (.ret (.s (.bool (El s))) [])
 | _=>.fail
def UK (args:List PV):Tr:=HD (C1 [[0]] args)
def GS:List PV->Tr
 | [.s (.str s),.s (.int .i64 base)]=>.need (A2 (List.length s)) (.need (ltN base 17) (.ret (.tup [.s (.int .i64 (↑(Az (G6 (Int.toNat base) 0 s)):Int)),.s (.bool (Option.isSome (G6 (Int.toNat base) 0 s)))]) []))
 | _=>.fail
def GR (args:List PV):Tr:=GS (C1 [[0],[0]] args)
def UT:List PV->Tr
 | [.s (.str s)]=>.need (A2 (List.length s)) (.ret (.tup [.s (.int .i64 (↑(Az (Lq s)):Int)),.s (.bool (Option.isSome (Lq s)))]) [])
 | _=>.fail
def A58 (args:List PV):Tr:=UT (C1 [[0]] args)
def Yc:List PV->Tr
 | [.s (.str s)]=>.need (A2 (List.length s)) (.ret (.s (.sl false false 1 (C5 (D1 s)))) [])
 | _=>.fail
def IE (args:List PV):Tr:=Yc (C1 [[0]] args)
def Mj:List PV->Tr
 | [.s (.str s)]=>.need (A2 (List.length s)) (.ret (.s (.bool (K5 s))) [])
 | _=>.fail
def Ko (args:List PV):Tr:=Mj (C1 [[0]] args)
def II:List PV->Tr
 | [.s (.str s)]=>.need (A2 (List.length s)) (.ret (.tup [.s (.int .u32 (↑(Az (pnB s)):Int)),.s (.bool (Option.isSome (pnB s)))]) [])
 | _=>.fail
def A60 (args:List PV):Tr:=II (C1 [[0]] args)
def VD:List PV->Tr
 | [.s (.str s)]=>.need (A2 (List.length s)) (.ret (.tup [.s (.int .u32 (↑(Az (v4B s)):Int)),.s (.bool (Option.isSome (v4B s)))]) [])
 | _=>.fail
def B80 (args:List PV):Tr:=VD (C1 [[0]] args)
def VC:List PV->Tr
 | [.s (.int .u32 v)]=>.need (ltN v 4294967296) (.ret (.s (.str (Kk (Int.toNat v)))) [])
 | _=>.fail
def B79 (args:List PV):Tr:=VC (C1 [[0]] args)
def Cj8:List PV->Tr
 | [.s (.str s),.s (.int .u8 c)]=>.need (A2 (List.length s)) (.need (inR c 256) (.ret (.s (.sl false false 1 (C5 (pcs (u8n c) s)))) []))
 | _=>.fail
def Cn3:List PV->Tr
 | [.s (.int .u8 b)]=>.need (inR b 256) (.ret (.s (.int .i64 (↑(dig (u8n b)):Int))) [])
 | _=>.fail
def GZ:List PV->Tr
 | [.s (.str s)]=>.need (A2 (List.length s)) (.ret (.tup [.s (.int .u16 (↑(Az (grp s)):Int)),.s (.bool (Option.isSome (grp s)))]) [])
 | _=>.fail
def A51 (args:List PV):Tr:=GZ (C1 [[0]] args)
def Xl:List PV->Tr
 | [.s (.str s),.s (.bool last)]=>.need (A2 (List.length s)) (.ret (.tup [.s (.sl (List.isEmpty (gvs s last)) (List.isEmpty (gvs s last)) 1 (E7 (gvs s last))),.s (.bool (Option.isSome (Aw s last)))]) [])
 | _=>.fail
def Ah7 (args:List PV):Tr:=Xl (C1 [[0],[0]] args)
def VG:List PV->Tr
 | [.s (.str s)]=>.need (A2 (List.length s)) (.ret (.tup [.agg [.s (.int .u16 (↑(v6c 0 s):Int)),.s (.int .u16 (↑(v6c 1 s):Int)),.s (.int .u16 (↑(v6c 2 s):Int)),.s (.int .u16 (↑(v6c 3 s):Int)),.s (.int .u16 (↑(v6c 4 s):Int)),.s (.int .u16 (↑(v6c 5 s):Int)),.s (.int .u16 (↑(v6c 6 s):Int)),.s (.int .u16 (↑(v6c 7 s):Int))],.s (.bool (Option.isSome (v6B s)))]) [])
 | _=>.fail
def B83 (args:List PV):Tr:=VG (C1 [[0]] args)
def Yu:List PV->Tr
 | [.agg [.s (.int .u16 a0),.s (.int .u16 a1),.s (.int .u16 a2),.s (.int .u16 a3),.s (.int .u16 a4),.s (.int .u16 a5),.s (.int .u16 a6),.s (.int .u16 a7)]]=>.need (ok8 a0 a1 a2 a3 a4 a5 a6 a7) (.ret (.tup [.s (.int .i64 (↑((zGo (n8 a0 a1 a2 a3 a4 a5 a6 a7) 0 0 0)).1:Int)),.s (.int .i64 (↑((zGo (n8 a0 a1 a2 a3 a4 a5 a6 a7) 0 0 0)).2:Int))]) [])
 | _=>.fail
def Aj2 (args:List PV):Tr:=Yu (C1 [[0,0,0,0,0,0,0,0]] args)
def A62:List PV->Tr
 | [.s (.int .u64 x)]=>.need (x==(16:Int)) (.ret (.s (.int .i64 (4:Int))) [])
 | _=>.fail
def B99 (args:List PV):Tr:=A62 (C1 [[0]] args)
def Xp:List PV->Tr
 | [.s (.int .i64 x)]=>.need (x==(16:Int)) (.ret (.s (.bool true)) [])
 | _=>.fail
def HM (args:List PV):Tr:=Xp (C1 [[0]] args)
def Xk:List PV->Tr
 | [.s (.sl ds_z ds_t 0 ds),.s (.int .u64 v),.s (.int .i64 b),.s (.bool neg),.s (.bool app)]=>.need (ltN v 65536) (.need (b==(16:Int)) (.need (not neg) (.need (not app) (.ret (.tup [.s (.sl true true 1 List.nil),.s (.str (X6 (Int.toNat v)))]) []))))
 | _=>.fail
def GV (args:List PV):Tr:=Xk (C1 [[0],[0],[0],[0],[0]] args)
def Xo:List PV->Tr
 | [.s (.int .u64 v),.s (.int .i64 b)]=>.need (ltN v 65536) (.need (b==(16:Int)) (.ret (.s (.str (X6 (Int.toNat v)))) []))
 | _=>.fail
def HL (args:List PV):Tr:=Xo (C1 [[0],[0]] args)
def GY:List PV->Tr
 | [.s (.int .u64 v),.s (.int .i64 b)]=>.need (ltN v 65536) (.need (b==(16:Int)) (.ret (.s (.str (X6 (Int.toNat v)))) []))
 | _=>.fail
def A50 (args:List PV):Tr:=GY (C1 [[0],[0]] args)
def Yk:List PV->Tr
 | [.s (.sl l_z l_t 1 l),.s (.str p)]=>.need (List.all l isS) (.need (A2 (List.length (Lib.join (List.map elS l) p))) (.need (A2 (List.length l)) (.ret (.s (.str (Lib.join (List.map elS l) p))) [])))
 | _=>.fail
def IS (args:List PV):Tr:=Yk (C1 [[1],[0]] args)
def IO:List PV->Tr
 | [.s (.str s),.s (.str p)]=>.need (A2 (List.length s)) (.ret (.tup [.s (.str ((Lib.cut s p)).1),.s (.str (((Lib.cut s p)).2).1),.s (.bool (((Lib.cut s p)).2).2)]) [])
 | _=>.fail
def Yf (args:List PV):Tr:=IO (C1 [[0],[0]] args)
def VF:List PV->Tr
 | [.s (.sl l_z l_t 1 l)]=>.need (List.all l Pe) (.need (Nat.ble (List.length l) 8) (.ret (.s (.str (Ay (List.map elN l)))) []))
 | _=>.fail
def B82 (args:List PV):Tr:=VF (C1 [[1]] args)
def VE:List PV->Tr
 | [.agg [.s (.int .u16 a0),.s (.int .u16 a1),.s (.int .u16 a2),.s (.int .u16 a3),.s (.int .u16 a4),.s (.int .u16 a5),.s (.int .u16 a6),.s (.int .u16 a7)]]=>.need (ok8 a0 a1 a2 a3 a4 a5 a6 a7) (.ret (.s (.str (Vt (n8 a0 a1 a2 a3 a4 a5 a6 a7)))) [])
 | _=>.fail
def B81 (args:List PV):Tr:=VE (C1 [[0,0,0,0,0,0,0,0]] args)
def Rl:List PV->Tr
 | [.s (.int .i64 n)]=>.ret (.s (.bool (ptI n))) []
 | _=>.fail
def Iq (args:List PV):Tr:=Rl (C1 [[0]] args)
def Rk:List PV->Tr
 | [.s (.int .i64 d),.s (.int .i64 c),.s (.bool f)]=>.need (ltN d 1152921504606846976) (.need (ltN c 1000000) (.need (ltI (0:Int) c) (.ret (.s (.int .i64 (↑(Cr (Int.toNat d) (Int.toNat c) f):Int))) [])))
 | _=>.fail
def Ip (args:List PV):Tr:=Rk (C1 [[0],[0],[0]] args)
def IG:List PV->Tr
 | [.s (.int .i64 d)]=>.need (ltN d 36) (.ret (.s (.int .u8 (↑(UInt8.toNat (Jf (Int.toNat d))):Int))) [])
 | _=>.fail
def UU (args:List PV):Tr:=IG (C1 [[0]] args)
def IK:List PV->Tr
 | [.s (.int .u8 b)]=>.need (inR b 256) (.ret (.s (.int .i64 (H8 (u8n b)))) [])
 | _=>.fail
def UW (args:List PV):Tr:=IK (C1 [[0]] args)
def IJ:List PV->Tr
 | [.s (.int .i64 b)]=>.ret (.fnr (Fn.func 153) [] [.ptr 1 0 0,.ptr 0 0 0]) [.box [.s (.int .i64 b)],.box [.s (.int .i64 (0:Int))]]
 | _=>.fail
def Yd (args:List PV):Tr:=IJ (C1 [[0]] args)
def Kp:List PV->List Blk->Tr
 | [.ptr 0 0 0,.ptr 1 0 0],[.box [.s (.int .i64 k)],.box [.s (.int .i64 b)]]=>.need (ltN k 1000000000000) (.need (ltN b 1000000) (.ret (.s (.int .i64 (U4 k b))) [.box [.s (.int .i64 (Int.add k (36:Int)))],.box [.s (.int .i64 b)]]))
 | _,_=>.fail
def ID:List PV->List Blk->Tr
 | [.fl 0,.s (.int .i64 q),.s (.int .i64 b)],[.arr z 5 1 l]=>.need (ltN q 1152921504606846976) (.need (ltN b 1000000) (.need (Nat.ble (List.length l) 100000) (.ret (.fl 0) [.arr z 5 1 (List.append l (List.map G0 (P9 (Int.toNat q) 0 (Int.toNat b))))])))
 | _,_=>.fail
def IH:List PV->Tr
 | [.s (.sl p_z p_t 1 p)]=>.need (List.all p Uv) (.ret (.tup [.s (.str ((Ec (List.map elI p))).1),.s (.int .i64 (↑((Ec (List.map elI p))).2:Int))]) [])
 | _=>.fail
def UV (args:List PV):Tr:=IH (C1 [[1]] args)
def IR:List PV->List Blk->Tr
 | [.fl 0,.s (.int .i64 i),.fl 1],[.arr z 3 1 l,.arr false 3 1 [[.int .i64 n]]]=>.need (ltN i (Nat.add (List.length l) 1)) (.need (Nat.ble (List.length l) 100000) (.ret (.fl 0) [.arr z 3 1 (He l (Int.toNat i) n),.arr false 3 1 [[.int .i64 n]]]))
 | _,_=>.fail
def GU:List PV->List Blk->Tr
 | [.ptr 0 0 0],[.box [.s (.str rest),.fl 1,.s (.int .i64 n),.s (.int .i64 i),.s (.int .i64 b),.s (.bool st)],.arr z 3 1 l]=>.need (A2 (List.length rest)) (.need (ltN b 1000000) (.need (ltN i 1099511627777) (.ret (.s (.int .i64 (BC b rest i))) [.box [.s (.str (BE b rest i)),.fl 1,.s (.int .i64 n),.s (.int .i64 (Nj b rest i)),.s (.int .i64 b),.s (.bool st)],.arr z 3 1 l])))
 | _,_=>.fail
def Wg:List PV->List Blk->Tr
 | [.ptr 0 0 0],[.box [.s (.str rest),.fl 1,.s (.int .i64 n),.s (.int .i64 i),.s (.int .i64 b),.s (.bool st)],.arr z 3 1 l]=>.need (A2 (List.length rest)) (.need (ltN b 1000000) (.need (ltN i 1099511627777) (.need (ltN n 1152921504606846976) (.need (Nat.ble (List.length l) 100000) (.ret (.s (.int .i64 ((C9 (DS.mk rest n i b st l))).1)) [.box [.s (.str (DS.rest ((C9 (DS.mk rest n i b st l))).2)),.fl 1,.s (.int .i64 (DS.n ((C9 (DS.mk rest n i b st l))).2)),.s (.int .i64 (DS.i ((C9 (DS.mk rest n i b st l))).2)),.s (.int .i64 (DS.b ((C9 (DS.mk rest n i b st l))).2)),.s (.bool (DS.st ((C9 (DS.mk rest n i b st l))).2))],.arr z 3 1 (DS.l ((C9 (DS.mk rest n i b st l))).2)])))))
 | _,_=>.fail
def Rh:List PV->Tr
 | [.s (.str s),.s (.int .u8 c)]=>.need (A2 (List.length s)) (.need (inR c 256) (.ret (.s (.int .i64 (H9 (u8n c) s))) []))
 | _=>.fail
def OA (args:List PV):Tr:=Rh (C1 [[0],[0]] args)
def Xs:List PV->Tr
 | [.s (.str s),.s (.int .u8 c)]=>.need (A2 (List.length s)) (.need (inR c 256) (.ret (.s (.int .i64 (H9 (u8n c) s))) []))
 | _=>.fail
def Wi (args:List PV):Tr:=Xs (C1 [[0],[0]] args)
def IF:List PV->Tr
 | [.s (.str s)]=>.need (A2 (List.length s)) (.ret (.tup [.s (.sl (List.isEmpty ((S6 s)).1) (List.isEmpty ((S6 s)).1) 1 (ZN ((S6 s)).1)),.s (.int .i64 (↑((S6 s)).2:Int))]) [])
 | _=>.fail
def A59 (args:List PV):Tr:=IF (C1 [[0]] args)
def NW:List PV->Tr
 | [.s (.str t)]=>.fail
 | _=>.fail
def Nw (args:List PV):Tr:=NW (C1 [[0]] args)
def Xx:List PV->Tr
 | [.s (.str t),.s (.str p),.s (.int .i64 n)]=>.ret (.fnr (Fn.func 114) [] [.ptr 1 0 0,.ptr 0 0 0,.ptr 2 0 0]) [.box [.s (.str t)],.box [.s (.str p)],.box [.s (.int .i64 n)]]
 | _=>.fail
def HX (args:List PV):Tr:=Xx (C1 [[0],[0],[0]] args)
def IT:List PV->Tr
 | [.s (.str t),.s (.str p)]=>.ret (.fnr (Fn.func 114) [] [.ptr 1 0 0,.ptr 0 0 0,.ptr 2 0 0]) [.box [.s (.str t)],.box [.s (.str p)],.box [.s (.int .i64 (0:Int))]]
 | _=>.fail
def UZ (args:List PV):Tr:=IT (C1 [[0],[0]] args)
def Wj:List PV->List Blk->Option (Bool × List (List PV))
 | [.yd,.ptr 0 0 0,.ptr 1 0 0,.ptr 2 0 0],[.box [.s (.str p)],.box [.s (.str t)],.box [.s (.int .i64 n)]]=>some (((A2 (List.length t))&&(((List.length p)==1)&&(n==(0:Int)))),List.map (λ(x:By)=>([.s (.str x)]:List PV)) (pcs (List.getD p 0 0) t))
 | _,_=>none
def HJ:List PV->Tr
 | [.s (.str t)]=>.ret (.fnr (Fn.func 44) [] [.ptr 0 0 0]) [.box [.s (.str t)]]
 | _=>.fail
def UM (args:List PV):Tr:=HJ (C1 [[0]] args)
def Wh:List PV->List Blk->Option (Bool × List (List PV))
 | [.yd,.ptr 0 0 0],[.box [.s (.str t)]]=>some ((A2 (List.length t)),List.map (λ(x:By)=>([.s (.str x)]:List PV)) (Qp t))
 | _,_=>none
def Cn4:List PV->Tr
 | [.s (.int .i64 k),.s (.int .i64 b)]=>.need (ltN k 10000000000) (.need (ltN b 1000000) (.ret (.s (.int .i64 (U4 (Int.mul (36:Int) k) b))) []))
 | _=>.fail
def Xv:List PV->Tr
 | [.s (.str s)]=>.need (A2 (List.length s)) (.ret (.s (.bool (Lk s))) [])
 | _=>.fail
def Ai2 (args:List PV):Tr:=Xv (C1 [[0]] args)
def IA:List PV->Tr
 | [.s (.str s)]=>.need (A2 (List.length s)) (.ret (.s (.bool (N8 s))) [])
 | _=>.fail
def HZ (args:List PV):Tr:=IA (C1 [[0]] args)
def Rt:List PV->Tr
 | [.s (.str s)]=>.need (A2 (List.length s)) (.ret (.s (.bool (Option.isSome (Wd s)))) [])
 | _=>.fail
def OK (args:List PV):Tr:=Rt (C1 [[0]] args)
def Rp:List PV->Tr
 | [.s (.str s)]=>.need (A2 (List.length s)) (.ret (.s (.int .i64 (↑(Lib.runeCountL s):Int))) [])
 | _=>.fail
def OH (args:List PV):Tr:=Rp (C1 [[0]] args)
def HS:List PV->Tr
 | [.s (.str s)]=>.need (A2 (List.length s)) (.ret (.tup [.s (.str ((O7 s)).1),.s (.int .i64 (↑((O7 s)).2:Int))]) [])
 | _=>.fail
def A56 (args:List PV):Tr:=HS (C1 [[0]] args)
def HC:List PV->Tr
 | [.s (.int .u8 b)]=>.need (inR b 256) (.ret (.s (.int .i64 (Sp (u8n b)))) [])
 | _=>.fail
def A54 (args:List PV):Tr:=HC (C1 [[0]] args)
def HB:List PV->Tr
 | [.s (.str s)]=>.need (A2 (List.length s)) (.ret (.tup [.s (.str (ZZ s)),.s (.bool (Option.isSome (Y1 s)))]) [])
 | _=>.fail
def A53 (args:List PV):Tr:=HB (C1 [[0]] args)
def Xm:List PV->Tr
 | [.s (.str s)]=>.need (A2 (List.length s)) (.need (Bc9 s) (.ret (.tup [.agg [.s (.int .i64 (↑(B3.kind ((M9 s)).1):Int)),.s (.str (B3.name ((M9 s)).1)),.s (.int .u32 (↑(B3.v4 ((M9 s)).1):Int)),.s (.int .u16 (↑(List.getD (B3.v6 ((M9 s)).1) 0 0):Int)),.s (.int .u16 (↑(List.getD (B3.v6 ((M9 s)).1) 1 0):Int)),.s (.int .u16 (↑(List.getD (B3.v6 ((M9 s)).1) 2 0):Int)),.s (.int .u16 (↑(List.getD (B3.v6 ((M9 s)).1) 3 0):Int)),.s (.int .u16 (↑(List.getD (B3.v6 ((M9 s)).1) 4 0):Int)),.s (.int .u16 (↑(List.getD (B3.v6 ((M9 s)).1) 5 0):Int)),.s (.int .u16 (↑(List.getD (B3.v6 ((M9 s)).1) 6 0):Int)),.s (.int .u16 (↑(List.getD (B3.v6 ((M9 s)).1) 7 0):Int))],.s (.int .i64 (↑((M9 s)).2:Int))]) []))
 | _=>.fail
def Ah8 (args:List PV):Tr:=Xm (C1 [[0]] args)
def Rf:List PV->Tr
 | [.s (.str s)]=>.need (A2 (List.length s)) (.ret (.tup [.agg [.s (.int .i64 (↑(B3.kind ((F9 s)).1):Int)),.s (.str (B3.name ((F9 s)).1)),.s (.int .u32 (↑(B3.v4 ((F9 s)).1):Int)),.s (.int .u16 (↑(List.getD (B3.v6 ((F9 s)).1) 0 0):Int)),.s (.int .u16 (↑(List.getD (B3.v6 ((F9 s)).1) 1 0):Int)),.s (.int .u16 (↑(List.getD (B3.v6 ((F9 s)).1) 2 0):Int)),.s (.int .u16 (↑(List.getD (B3.v6 ((F9 s)).1) 3 0):Int)),.s (.int .u16 (↑(List.getD (B3.v6 ((F9 s)).1) 4 0):Int)),.s (.int .u16 (↑(List.getD (B3.v6 ((F9 s)).1) 5 0):Int)),.s (.int .u16 (↑(List.getD (B3.v6 ((F9 s)).1) 6 0):Int)),.s (.int .u16 (↑(List.getD (B3.v6 ((F9 s)).1) 7 0):Int))],.s (.int .i64 (↑((F9 s)).2:Int))]) [])
 | _=>.fail
def NY (args:List PV):Tr:=Rf (C1 [[0]] args)
def UN:List PV->Tr
 | [.s (.str s)]=>.need (A2 (List.length s)) (.ret (.s (.bool (V5 s))) [])
 | _=>.fail
def NZ (args:List PV):Tr:=UN (C1 [[0]] args)
def HK:List PV->Tr
 | [.agg [.s (.int .i64 kd),.s (.str nm),.s (.int .u32 v4),.s (.int .u16 a0),.s (.int .u16 a1),.s (.int .u16 a2),.s (.int .u16 a3),.s (.int .u16 a4),.s (.int .u16 a5),.s (.int .u16 a6),.s (.int .u16 a7)]]=>.need (A2 (List.length nm)) (.need (ltN v4 4294967296) (.need (ok8 a0 a1 a2 a3 a4 a5 a6 a7) (.ret (.s (.bool (L1 (mkH kd nm v4 (n8 a0 a1 a2 a3 a4 a5 a6 a7))))) [])))
 | _=>.fail
def Rg (args:List PV):Tr:=HK (C1 [[0,0,0,0,0,0,0,0,0,0,0]] args)
def HE:List PV->Tr
 | [.agg [.s (.int .i64 kd),.s (.str nm),.s (.int .u32 v4),.s (.int .u16 a0),.s (.int .u16 a1),.s (.int .u16 a2),.s (.int .u16 a3),.s (.int .u16 a4),.s (.int .u16 a5),.s (.int .u16 a6),.s (.int .u16 a7)]]=>.need (A2 (List.length nm)) (.need (ltN v4 4294967296) (.need (ok8 a0 a1 a2 a3 a4 a5 a6 a7) (.ret (.s (.str (Ih (mkH kd nm v4 (n8 a0 a1 a2 a3 a4 a5 a6 a7))))) [])))
 | _=>.fail
def UL (args:List PV):Tr:=HE (C1 [[0,0,0,0,0,0,0,0,0,0,0]] args)
def HA:List PV->Tr
 | [.s (.str p),.s (.str s)]=>.need (A2 (List.length p)) (.need (A2 (List.length s)) (.ret (.s (.bool (Oi p s))) []))
 | _=>.fail
def A52 (args:List PV):Tr:=HA (C1 [[0],[0]] args)
def Ri:List PV->Tr
 | [.s (.int .i64 n),.s (.sl l_z l_t 1 l)]=>.need (List.all l isS) (.need (A2 (List.length l)) (.ret (.s (.bool (Q1 n (List.map elS l)))) []))
 | _=>.fail
def OB (args:List PV):Tr:=Ri (C1 [[0],[1]] args)
def HP:List PV->Tr
 | [.s (.int .i64 n),.s (.int .i64 m)]=>.need (ltI (0:Int) m) (.need (ltN m 1000000000) (.ret (.s (.int .i64 (Int.emod n m))) []))
 | _=>.fail
def UP (args:List PV):Tr:=HP (C1 [[0],[0]] args)
end
section
variable {σ R : Type} (lf : Nat) (cl : D3) (yh : Yh σ) (s : σ) (k : Out -> St σ -> Option R)
noncomputable abbrev Z4:Code:=D0 Tryz.f138
noncomputable def T4 (lf:Nat):Cfg:=B8 lf [138] (A3 [(5,[0,1,0,0,10,0])]) [] (A3 [(16,[2,0]),(15,[0,3,10,0]),(10,[0,3,10,0]),(12,[0,3,10,0]),(14,[0,3,10,0]),(8,[2,0]),(13,[0,3,1,8,0,32]),(11,[0,3,1,8,0,18]),(9,[0,3,1,8,0,5]),(7,[0,3,1,8,0]),(6,[0,3,0,9,0]),(5,[0,3,10,0,0]),(4,[0,3,10,0]),(3,[0,3]),(2,[2,0]),(1,[0,12]),(0,[0])]) [] (A3 [(0,[4]),(1,[0,3,10,0]),(2,[0,3,10,0])]) (some [2,0]) [] [] []
noncomputable def Ow {R:Type} (s0:By) (v1 b2 n3 n4:Int) (b5:Bool) (k0:By->Int->Int->Int->Option R) (k1:Unit->Option R):Option R:=cond b5 (vl (wu8 ((wu8 (b2-65))+10)) λn'4=>vl (bOr .u16 (Qf .u16 v1 (4:Int)) (Qz n'4)) λn'5=>k0 s0 n'5 n3 n4) (k1 ())
abbrev ET (b:Code):Prop:=∀ (k:Out->St σ->Option R) s0 v1 b2 n3 n4 b5,A9 (T4 lf) cl yh b ⟨gp [(0,pS s0),(3,p16 v1),(1,p8 b2),(8,pI n3),(0,pI n4),(32,pB b5)] 15,[],s⟩ k=Ow s0 v1 b2 n3 n4 b5 (λs0 v1 n2 n3=>k .normal ⟨gp [(0,pS s0),(3,p16 v1),(10,pI n2),(0,pI n3)] 48,[],s⟩) (λ_=>k .ret ⟨gp [(2,p16 (0:Int)),(0,pB false)] 61,[],s⟩)
theorem XW:ET (R:=R) lf cl yh s (cd [1,1,1,0,1,0,0,1,1,0,0,1,1,0,1,1,1,1,1] Z4):=by
 intro k s0 v1 b2 n3 n4 b5;unfold Ow;kernel_rfl
noncomputable def Ox {R:Type} (s0:By) (v1 b2 n3 n4:Int) (b5:Bool) (k0:By->Int->Int->Int->Option R) (k1:Unit->Option R):Option R:=cond b5 (vl (wu8 ((wu8 (b2-97))+10)) λn'2=>vl (bOr .u16 (Qf .u16 v1 (4:Int)) (Qz n'2)) λn'3=>k0 s0 n'3 n3 n4) (cond (not (ltI b2 65)) (Ow s0 v1 b2 n3 n4 (not (ltI 70 b2)) (λs'6 v'7 n'8 n'9=>k0 s'6 v'7 n'8 n'9) (λ_=>k1 ())) (Ow s0 v1 b2 n3 n4 false (λs'10 v'11 n'12 n'13=>k0 s'10 v'11 n'12 n'13) (λ_=>k1 ())))
abbrev Sz (b:Code):Prop:=∀ (k:Out->St σ->Option R) s0 v1 b2 n3 n4 b5,A9 (T4 lf) cl yh b ⟨gp [(0,pS s0),(3,p16 v1),(1,p8 b2),(8,pI n3),(0,pI n4),(18,pB b5)] 29,[],s⟩ k=Ox s0 v1 b2 n3 n4 b5 (λs0 v1 n2 n3=>k .normal ⟨gp [(0,pS s0),(3,p16 v1),(10,pI n2),(0,pI n3)] 48,[],s⟩) (λ_=>k .ret ⟨gp [(2,p16 (0:Int)),(0,pB false)] 61,[],s⟩)
theorem XX (b_1110100110011011111:Code) (h_grpc_j0:ET (R:=R) lf cl yh s b_1110100110011011111):Sz (R:=R) lf cl yh s (cd [1,1,1,0,1,0,0,1,1,0,0,1,1,0,1,1,1] (N4 [1,1,1,0,1,0,0,1,1,0,0,1,1,0,1,1,1,1,1] b_1110100110011011111 Z4)):=by
 intro k s0 v1 b2 n3 n4 b5;unfold Ox;simp only [<-h_grpc_j0 k];kernel_rfl
theorem XY:Sz (R:=R) lf cl yh s (cd [1,1,1,0,1,0,0,1,1,0,0,1,1,0,1,1,1] Z4):=by
 intro k s0 v1 b2 n3 n4 b5;exact Eq.trans (by kernel_rfl) (XX lf cl yh s (cd [1,1,1,0,1,0,0,1,1,0,0,1,1,0,1,1,1,1,1] Z4) (XW lf cl yh s) k s0 v1 b2 n3 n4 b5)
noncomputable def Oy {R:Type} (s0:By) (v1 b2 n3 n4:Int) (b5:Bool) (k0:By->Int->Int->Int->Option R) (k1:Unit->Option R):Option R:=cond b5 (vl (Qz (wu8 (b2-48))) λn'0=>vl (bOr .u16 (Qf .u16 v1 (4:Int)) n'0) λn'1=>k0 s0 n'1 n3 n4) (cond (not (ltI b2 97)) (Ox s0 v1 b2 n3 n4 (not (ltI 102 b2)) (λs'14 v'15 n'16 n'17=>k0 s'14 v'15 n'16 n'17) (λ_=>k1 ())) (Ox s0 v1 b2 n3 n4 false (λs'18 v'19 n'20 n'21=>k0 s'18 v'19 n'20 n'21) (λ_=>k1 ())))
abbrev La (b:Code):Prop:=∀ (k:Out->St σ->Option R) s0 v1 b2 n3 n4 b5,A9 (T4 lf) cl yh b ⟨gp [(0,pS s0),(3,p16 v1),(1,p8 b2),(8,pI n3),(0,pI n4),(5,pB b5)] 42,[],s⟩ k=Oy s0 v1 b2 n3 n4 b5 (λs0 v1 n2 n3=>k .normal ⟨gp [(0,pS s0),(3,p16 v1),(10,pI n2),(0,pI n3)] 48,[],s⟩) (λ_=>k .ret ⟨gp [(2,p16 (0:Int)),(0,pB false)] 61,[],s⟩)
theorem XZ (b_11101001100110111:Code) (h_grpc_j1:Sz (R:=R) lf cl yh s b_11101001100110111):La (R:=R) lf cl yh s (cd [1,1,1,0,1,0,0,1,1,0,0,1,1,0,1] (N4 [1,1,1,0,1,0,0,1,1,0,0,1,1,0,1,1,1] b_11101001100110111 Z4)):=by
 intro k s0 v1 b2 n3 n4 b5;unfold Oy;simp only [<-h_grpc_j1 k];kernel_rfl
theorem YA:La (R:=R) lf cl yh s (cd [1,1,1,0,1,0,0,1,1,0,0,1,1,0,1] Z4):=by
 intro k s0 v1 b2 n3 n4 b5;exact Eq.trans (by kernel_rfl) (XZ lf cl yh s (cd [1,1,1,0,1,0,0,1,1,0,0,1,1,0,1,1,1] Z4) (XY lf cl yh s) k s0 v1 b2 n3 n4 b5)
noncomputable def Bu {R:Type} (lf n:Nat) (s0:By) (v1 n2 n3:Int) (k0:Unit->Option R) (k1:Int->Option R):Option R:=match n with | 0=>none | n+1=>cond (ltI n3 n2) (cond (inR n3 s0.length) (cond (not (ltI (bAt s0 n3) (48:Int))) (Oy s0 v1 (bAt s0 n3) n2 n3 (not (ltI 57 (bAt s0 n3))) (λs'22 v'23 n'24 n'25=>vl (A4 (n'25+1)) λn'26=>Bu lf n s'22 v'23 n'24 n'26 k0 k1) (λ_=>k0 ())) (Oy s0 v1 (bAt s0 n3) n2 n3 false (λs'27 v'28 n'29 n'30=>vl (A4 (n'30+1)) λn'31=>Bu lf n s'27 v'28 n'29 n'31 k0 k1) (λ_=>k0 ()))) none) (k1 v1)
theorem YB (b_111010011001101:Code) (h_grpc_j2:La (R:=R) lf cl yh s b_111010011001101) (n:Nat) (s0:By) (v1 n2 n3:Int):F0 0 ((T4 lf).keep 5) (bd (T4 lf) cl yh (cd [1,1,1,0,1,0,0] (N4 [1,1,1,0,1,0,0,1,1,0,0,1,1,0,1] b_111010011001101 Z4))) n ⟨gp [(0,pS s0),(3,p16 v1),(10,pI n2),(0,pI n3)] 48,[],s⟩ k =
 Bu lf n s0 v1 n2 n3 (λ_=>k .ret ⟨gp [(2,p16 (0:Int)),(0,pB false)] 61,[],s⟩) (λv0=>k (.exit 0) ⟨gp [(4,p16 v0)] 60,[],s⟩):=by
 induction n generalizing s0 v1 n2 n3 with
 | zero=>rfl
 | succ n ih=>rw [Bu];exact let K0:=(H7 2 (H7 1 (I5 (T4 lf) cl yh (cd [1,1,1,0,1,0,0,1,1,1] Z4) (lpK 0 ((T4 lf).keep 5) (bd (T4 lf) cl yh (cd [1,1,1,0,1,0,0] (N4 [1,1,1,0,1,0,0,1,1,0,0,1,1,0,1] b_111010011001101 Z4))) n k))));(Eq.trans (by kernel_rfl) (A0 (A0 (A0 ((h_grpc_j2 K0 s0 v1 (bAt s0 n3) n2 n3 (not (ltI 57 (bAt s0 n3)))).trans (congr (congr rfl (fx4 λs'22 v'23 n'24 n'25=>(Eq.trans (by kernel_rfl) (A5 λn'26=>(ih s'22 v'23 n'24 n'26))))) (by kernel_rfl))) ((h_grpc_j2 K0 s0 v1 (bAt s0 n3) n2 n3 false).trans (congr (congr rfl (fx4 λs'27 v'28 n'29 n'30=>(Eq.trans (by kernel_rfl) (A5 λn'31=>(ih s'27 v'28 n'29 n'31))))) (by kernel_rfl)))) rfl) rfl))
noncomputable def Bb6 {R:Type} (lf:Nat) (s0:By) (k0:Int->Bool->Option R):Option R:=cond (s0==[]) (k0 0 false) (cond (ltI 4 (s0.length:Int)) (k0 0 false) (Bu lf lf s0 0 (s0.length:Int) 0 (λ_=>k0 0 false) (λv'32=>k0 v'32 true)))
theorem Bu0 (b_111010011001101:Code) (h_grpc_j2:La (R:=PV × List Blk × σ) lf cl yh s b_111010011001101) (s0:By):A9 (T4 lf) cl yh (cd [] (N4 [1,1,1,0,1,0,0,1,1,0,0,1,1,0,1] b_111010011001101 Z4)) ⟨[pS s0]++tps 64,[],s⟩ (G5 (T4 lf) Tryz.f138)=Bb6 lf s0 (λr0 r1=>some (.tup [p16 r0,pB r1],[],s)):=by
 unfold Bb6;exact (Eq.trans (by kernel_rfl) (A0 rfl (A0 rfl ((YB lf cl yh s (H7 0 (I5 (T4 lf) cl yh (cd [1,1,1,1] Z4) (G5 (T4 lf) Tryz.f138))) b_111010011001101 h_grpc_j2 lf s0 0 (s0.length:Int) 0).trans (by kernel_rfl)))))
theorem Bu1 (d:Nat) (s0):evC (T4 lf) (d+1) σ yh 138 [pS s0] [] s=Bb6 lf s0 (λr0 r1=>some (.tup [p16 r0,pB r1],[],s)):=
 (evE (fn:=Tryz.f138) (by kernel_rfl)).trans (Eq.trans (by kernel_rfl) (Bu0 lf (evC (T4 lf) d) yh s (cd [1,1,1,0,1,0,0,1,1,0,0,1,1,0,1] Z4) (YA lf (evC (T4 lf) d) yh s) s0))
noncomputable abbrev Aj7:Code:=D0 Tryz.f121
noncomputable def Gs (lf:Nat):Cfg:=B8 lf [121] (A3 [(6,[1,2,0,0,0,10,0,0])]) [(79,Ny),(138,A51),(139,B80)] (A3 [(16,[4,0]),(15,[1,4,0,10,0,0]),(14,[6]),(13,[4,0]),(12,[6,5,39]),(11,[1,4,0,0,3,0]),(10,[1,4,0,10,0,0]),(9,[1,4,0,0,0,0,7,0,0,9]),(8,[1,4,0,0,0,0,0,6,0,0]),(7,[1,4,0,0,0,8,0,0]),(6,[1,4,0,10,0,0,0]),(5,[1,4,0,10,0,0]),(4,[1,4,0]),(3,[0,0,4]),(2,[4,0]),(1,[0,0,13]),(0,[0,0])]) [138,139] (A3 [(0,[6]),(1,[1,4,0,10,0,0])]) (some [4,0]) [] [] []
noncomputable def Ax {R:Type} (lf n:Nat) (last0:Bool) (l1:LL) (n2 n3:Int) (l4:LL) (k0:LL->Option R) (k1:LL->Option R):Option R:=match n with | 0=>none | n+1=>cond (ltI n3 n2) (cond (inR n3 l1.length) (cond (okE Qq l1 (Int.toNat n3) 0) (cond (A2 (List.length (gX l1 (Int.toNat n3) 0))) (vl (↑(Az (grp (gX l1 (Int.toNat n3) 0))):Int) λn'3=>cond (Option.isSome (grp (gX l1 (Int.toNat n3) 0))) (cond (J9 (l4.length+1)) (Ax lf n last0 l1 n2 (A4 (n3+1)) (l4++[[(SV.int .u16 n'3)]]) k0 k1) none) (cond (A2 (List.length (gX l1 (Int.toNat n3) 0))) (vl (↑(Az (v4B (gX l1 (Int.toNat n3) 0))):Int) λn'5=>cond (not (Option.isSome (v4B (gX l1 (Int.toNat n3) 0)))) (k0 l4) (cond (not last0) (k0 l4) (vl (A4 ((l1.length:Int)-1)) λn'7=>cond (ltI n3 n'7) (k0 l4) (vl (DI .u32 n'5 (16:Int)) λn'8=>cond (J9 (l4.length+2)) (k1 (l4++[[(SV.int .u16 (Qz n'8))],[(SV.int .u16 (Qz n'5))]])) none)))) none)) none) none) none) (k1 l4)
theorem QG (n last0 l1 n2 n3 l4):F0 1 ((Gs lf).keep 6) (bd (Gs lf) cl yh (cd [1,0,1,1,1,1,0,1,0,0] Aj7)) n ⟨gp [(1,pB last0),(4,.fl 0),(0,.s (.sl false false 1 l1)),(10,.s (.sl false false 1 l1)),(0,pI n2),(0,pI n3)] 42,[.arr true 55 1 l4],s⟩ k =
 Ax lf n last0 l1 n2 n3 l4 (λl0=>k .ret ⟨gp [(4,.fl 1),(0,pB false)] 57,[.arr true 55 1 l0,.arr true 55 1 []],s⟩) (λl0=>k (.exit 0) ⟨gp [(6,.fl 0)] 56,[.arr true 55 1 l0],s⟩):=by
 induction n generalizing last0 l1 n2 n3 l4 with
 | zero=>rfl
 | succ n ih=>rw [Ax];simp only [<-ih];kernel_rfl
noncomputable def Ak9 {R:Type} (lf:Nat) (s0:By) (last1:Bool) (k0:LL->Option R) (k1:LL->Option R):Option R:=cond (s0==[]) (k0 []) (cond (A2 s0.length) (cond (1==1) (vl (C5 (pcs (List.getD ([58]:List UInt8) 0 0) s0)) λl'1=>Ax lf lf last1 l'1 (l'1.length:Int) 0 [] (λl'9=>k1 l'9) (λl'10=>k0 l'10)) none) none)
theorem Bb7 (d:Nat) (s0 last1):evC (Gs lf) (d+1) σ yh 121 [pS s0,pB last1] [] s=Ak9 lf s0 last1 (λl0=>some (.tup [.fl 0,pB true],[.arr true 55 1 l0],s)) (λl0=>some (.tup [.fl 1,pB false],[.arr true 55 1 l0,.arr true 55 1 []],s)):=by
 refine (evE (fn:=Tryz.f121) (by kernel_rfl)).trans ?_
 generalize evC (Gs lf) d=cl
 unfold Ak9;exact (Eq.trans (by kernel_rfl) (A0 rfl (A0 (A0 (A5 λl'1=>((QG lf cl yh s (H7 0 (I5 (Gs lf) cl yh (cd [1,0,1,1,1,1,1] Aj7) (G5 (Gs lf) Tryz.f121))) lf last1 l'1 (l'1.length:Int) 0 []).trans (by kernel_rfl))) rfl) rfl)))
noncomputable abbrev A81:Code:=D0 Tryz.f100
noncomputable def Uf (lf:Nat):Cfg:=B8 lf [100] (A3 []) [(25,Yf),(121,Ah7)] (A3 [(10,[2,0]),(9,[2,1]),(8,[2,1,5]),(7,[2,0]),(6,[2,1,3,1,45]),(5,[2,1,2,0,0,0,0,0]),(4,[2,1,2,0,0,0,0]),(3,[2,1,1,0,0,0]),(2,[2,1,0,0,0]),(1,[0,1,1]),(0,[0,1])]) [25] (A3 []) (some [2,0]) [] [] []
noncomputable def Kl {R:Type} (x1 y3 l5:LL) (k0:LL->LL->Option R):Option R:=cond (decide (l5.length=8)) (cond (decide (8<=l5.length)) (vl ((List.take 0 l5)++((List.take 8 x1)++(List.drop (0+(min x1.length 8)) l5))) λl'9=>vl (A4 ((8:Int)-(y3.length:Int))) λn'10=>cond (decide (l'9.length=8)) (cond (L3 n'10 (8:Int) 8) (cond (decide (((Int.toNat n'10)+(8-(Int.toNat n'10)))<=l'9.length)) (vl ((List.take (Int.toNat n'10) l'9)++((List.take (8-(Int.toNat n'10)) y3)++(List.drop ((Int.toNat n'10)+(min y3.length (8-(Int.toNat n'10)))) l'9))) λl'11=>cond ((decide (8=(l'11.length*1)))&&(okS ⟨true,true,[.int .u16,.int .u16,.int .u16,.int .u16,.int .u16,.int .u16,.int .u16,.int .u16]⟩ (List.flatten l'11) 0)) (vl (SV.gI (List.getD (List.flatten l'11) 0 SV.nilp)) λn'12=>vl (SV.gI (List.getD (List.flatten l'11) 1 SV.nilp)) λn'13=>vl (SV.gI (List.getD (List.flatten l'11) 2 SV.nilp)) λn'14=>vl (SV.gI (List.getD (List.flatten l'11) 3 SV.nilp)) λn'15=>vl (SV.gI (List.getD (List.flatten l'11) 4 SV.nilp)) λn'16=>vl (SV.gI (List.getD (List.flatten l'11) 5 SV.nilp)) λn'17=>vl (SV.gI (List.getD (List.flatten l'11) 6 SV.nilp)) λn'18=>vl (SV.gI (List.getD (List.flatten l'11) 7 SV.nilp)) λn'19=>cond (decide (8=(l5.length*1))) (vl (P4 1 l5.length [(SV.int .u16 n'12),(SV.int .u16 n'13),(SV.int .u16 n'14),(SV.int .u16 n'15),(SV.int .u16 n'16),(SV.int .u16 n'17),(SV.int .u16 n'18),(SV.int .u16 n'19)]) λl'20=>k0 l'20 l'11) none) none) none) none) none) none) none
abbrev TV (b:Code):Prop:=∀ (k:Out->St σ->Option R) x_z0 x1 y_z2 y3 b4 l5,A9 (Uf lf) cl yh b ⟨gp [(2,.ptr 0 0 0),(1,.ptr 1 0 0),(3,.s (.sl x_z0 x_z0 1 x1)),(1,.s (.sl y_z2 y_z2 1 y3)),(45,pB b4)] 11,[.arr false 56 1 l5,.arr false 56 1 l5],s⟩ k=Kl x1 y3 l5 (λl0 l1=>k .ret ⟨gp [(2,.ptr 0 0 0),(0,pB true)] 64,[.arr false 56 1 l0,.arr false 56 1 l1],s⟩)
theorem A37:TV (R:=R) lf cl yh s (cd [1,1,1,1,1,1,1] A81):=by
 intro k x_z0 x1 y_z2 y3 b4 l5;unfold Kl;kernel_rfl
noncomputable def v6p {R:Type} (lf:Nat) (s0:By) (k0:Int->Int->Int->Int->Int->Int->Int->Int->Bool->LL->LL->Option R):Option R:=cond (A2 s0.length) (vl ((Lib.cut s0 ([58,58]:List UInt8))).1 λs'2=>vl (((Lib.cut s0 ([58,58]:List UInt8))).2).1 λs'3=>cond (A2 s'2.length) (vl (E7 (gvs s'2 (not (((Lib.cut s0 ([58,58]:List UInt8))).2).2))) λl'5=>cond (A2 s'3.length) (vl (A4 ((l'5.length:Int)+(↑(List.length (E7 (gvs s'3 true))):Int))) λn'7=>cond (not (Option.isSome (Aw s'2 (not (((Lib.cut s0 ([58,58]:List UInt8))).2).2)))) (k0 0 0 0 0 0 0 0 0 false (List.replicate 8 [(SV.int .u16 (0:Int))]) (List.replicate 8 [(SV.int .u16 (0:Int))])) (cond (not (Option.isSome (Aw s'3 true))) (k0 0 0 0 0 0 0 0 0 false (List.replicate 8 [(SV.int .u16 (0:Int))]) (List.replicate 8 [(SV.int .u16 (0:Int))])) (cond (not (((Lib.cut s0 ([58,58]:List UInt8))).2).2) (cond (n'7 != 8) (k0 0 0 0 0 0 0 0 0 false (List.replicate 8 [(SV.int .u16 (0:Int))]) (List.replicate 8 [(SV.int .u16 (0:Int))])) (cond (((Lib.cut s0 ([58,58]:List UInt8))).2).2 (cond (ltI 7 n'7) (k0 0 0 0 0 0 0 0 0 false (List.replicate 8 [(SV.int .u16 (0:Int))]) (List.replicate 8 [(SV.int .u16 (0:Int))])) (Kl l'5 (E7 (gvs s'3 true)) (List.replicate 8 [(SV.int .u16 (0:Int))]) (λl'21 l'22=>cond ((decide (8=(l'21.length*1)))&&(okS ⟨true,true,[.int .u16,.int .u16,.int .u16,.int .u16,.int .u16,.int .u16,.int .u16,.int .u16]⟩ (List.flatten l'21) 0)) (k0 (SV.gI (List.getD (List.flatten l'21) 0 SV.nilp)) (SV.gI (List.getD (List.flatten l'21) 1 SV.nilp)) (SV.gI (List.getD (List.flatten l'21) 2 SV.nilp)) (SV.gI (List.getD (List.flatten l'21) 3 SV.nilp)) (SV.gI (List.getD (List.flatten l'21) 4 SV.nilp)) (SV.gI (List.getD (List.flatten l'21) 5 SV.nilp)) (SV.gI (List.getD (List.flatten l'21) 6 SV.nilp)) (SV.gI (List.getD (List.flatten l'21) 7 SV.nilp)) true l'21 l'22) none))) (Kl l'5 (E7 (gvs s'3 true)) (List.replicate 8 [(SV.int .u16 (0:Int))]) (λl'23 l'24=>cond ((decide (8=(l'23.length*1)))&&(okS ⟨true,true,[.int .u16,.int .u16,.int .u16,.int .u16,.int .u16,.int .u16,.int .u16,.int .u16]⟩ (List.flatten l'23) 0)) (k0 (SV.gI (List.getD (List.flatten l'23) 0 SV.nilp)) (SV.gI (List.getD (List.flatten l'23) 1 SV.nilp)) (SV.gI (List.getD (List.flatten l'23) 2 SV.nilp)) (SV.gI (List.getD (List.flatten l'23) 3 SV.nilp)) (SV.gI (List.getD (List.flatten l'23) 4 SV.nilp)) (SV.gI (List.getD (List.flatten l'23) 5 SV.nilp)) (SV.gI (List.getD (List.flatten l'23) 6 SV.nilp)) (SV.gI (List.getD (List.flatten l'23) 7 SV.nilp)) true l'23 l'24) none)))) (cond (((Lib.cut s0 ([58,58]:List UInt8))).2).2 (cond (ltI 7 n'7) (k0 0 0 0 0 0 0 0 0 false (List.replicate 8 [(SV.int .u16 (0:Int))]) (List.replicate 8 [(SV.int .u16 (0:Int))])) (Kl l'5 (E7 (gvs s'3 true)) (List.replicate 8 [(SV.int .u16 (0:Int))]) (λl'25 l'26=>cond ((decide (8=(l'25.length*1)))&&(okS ⟨true,true,[.int .u16,.int .u16,.int .u16,.int .u16,.int .u16,.int .u16,.int .u16,.int .u16]⟩ (List.flatten l'25) 0)) (k0 (SV.gI (List.getD (List.flatten l'25) 0 SV.nilp)) (SV.gI (List.getD (List.flatten l'25) 1 SV.nilp)) (SV.gI (List.getD (List.flatten l'25) 2 SV.nilp)) (SV.gI (List.getD (List.flatten l'25) 3 SV.nilp)) (SV.gI (List.getD (List.flatten l'25) 4 SV.nilp)) (SV.gI (List.getD (List.flatten l'25) 5 SV.nilp)) (SV.gI (List.getD (List.flatten l'25) 6 SV.nilp)) (SV.gI (List.getD (List.flatten l'25) 7 SV.nilp)) true l'25 l'26) none))) (Kl l'5 (E7 (gvs s'3 true)) (List.replicate 8 [(SV.int .u16 (0:Int))]) (λl'27 l'28=>cond ((decide (8=(l'27.length*1)))&&(okS ⟨true,true,[.int .u16,.int .u16,.int .u16,.int .u16,.int .u16,.int .u16,.int .u16,.int .u16]⟩ (List.flatten l'27) 0)) (k0 (SV.gI (List.getD (List.flatten l'27) 0 SV.nilp)) (SV.gI (List.getD (List.flatten l'27) 1 SV.nilp)) (SV.gI (List.getD (List.flatten l'27) 2 SV.nilp)) (SV.gI (List.getD (List.flatten l'27) 3 SV.nilp)) (SV.gI (List.getD (List.flatten l'27) 4 SV.nilp)) (SV.gI (List.getD (List.flatten l'27) 5 SV.nilp)) (SV.gI (List.getD (List.flatten l'27) 6 SV.nilp)) (SV.gI (List.getD (List.flatten l'27) 7 SV.nilp)) true l'27 l'28) none)))))) none) none) none
theorem Cg2 (b_1111111:Code) (h_v6p_j0:TV (R:=PV × List Blk × σ) lf cl yh s b_1111111) (s0:By):A9 (Uf lf) cl yh (cd [] (N4 [1,1,1,1,1,1,1] b_1111111 A81)) ⟨[pS s0]++tps 67,[],s⟩ (G5 (Uf lf) Tryz.f100)=v6p lf s0 (λr0 r1 r2 r3 r4 r5 r6 r7 r8 l9 l10=>some (.tup [.agg [p16 r0,p16 r1,p16 r2,p16 r3,p16 r4,p16 r5,p16 r6,p16 r7],pB r8],[.arr false 56 1 l9,.arr false 56 1 l10],s)):=by
 unfold v6p;exact let K0:=(G5 (Uf lf) Tryz.f100);(Eq.trans (by kernel_rfl) (A0 (A5 λs'2=>(A5 λs'3=>(A0 (A5 λl'5=>(A0 (A5 λn'7=>(A0 rfl (A0 rfl (A0 (A0 rfl (A0 (A0 rfl ((h_v6p_j0 K0 (List.isEmpty (gvs s'2 (not (((Lib.cut s0 ([58,58]:List UInt8))).2).2))) l'5 (List.isEmpty (gvs s'3 true)) (E7 (gvs s'3 true)) (ltI 7 n'7) (List.replicate 8 [(SV.int .u16 (0:Int))])).trans (by kernel_rfl))) ((h_v6p_j0 K0 (List.isEmpty (gvs s'2 (not (((Lib.cut s0 ([58,58]:List UInt8))).2).2))) l'5 (List.isEmpty (gvs s'3 true)) (E7 (gvs s'3 true)) false (List.replicate 8 [(SV.int .u16 (0:Int))])).trans (by kernel_rfl)))) (A0 (A0 rfl ((h_v6p_j0 K0 (List.isEmpty (gvs s'2 (not (((Lib.cut s0 ([58,58]:List UInt8))).2).2))) l'5 (List.isEmpty (gvs s'3 true)) (E7 (gvs s'3 true)) (ltI 7 n'7) (List.replicate 8 [(SV.int .u16 (0:Int))])).trans (by kernel_rfl))) ((h_v6p_j0 K0 (List.isEmpty (gvs s'2 (not (((Lib.cut s0 ([58,58]:List UInt8))).2).2))) l'5 (List.isEmpty (gvs s'3 true)) (E7 (gvs s'3 true)) false (List.replicate 8 [(SV.int .u16 (0:Int))])).trans (by kernel_rfl))))))) rfl)) rfl))) rfl))
theorem Cg3 (d:Nat) (s0):evC (Uf lf) (d+1) σ yh 100 [pS s0] [] s=v6p lf s0 (λr0 r1 r2 r3 r4 r5 r6 r7 r8 l9 l10=>some (.tup [.agg [p16 r0,p16 r1,p16 r2,p16 r3,p16 r4,p16 r5,p16 r6,p16 r7],pB r8],[.arr false 56 1 l9,.arr false 56 1 l10],s)):=
 (evE (fn:=Tryz.f100) (by kernel_rfl)).trans (Eq.trans (by kernel_rfl) (Cg2 lf (evC (Uf lf) d) yh s (cd [1,1,1,1,1,1,1] A81) (A37 lf (evC (Uf lf) d) yh s) s0))
noncomputable abbrev Kt:Code:=D0 Tryz.f110
noncomputable def R8 (lf:Nat):Cfg:=B8 lf [110] (A3 [(6,[1,0,0,0,0,0,0,0]),(3,[1,0,0,0,0,2])]) [] (A3 [(11,[2,0]),(10,[1,2,0,2]),(9,[1,2,0,2]),(8,[1,2,0,0,0,0,18]),(7,[1,2,0,0,0,0]),(6,[1,2,0,0,0,0,13]),(5,[1,2,0,0,0,0]),(4,[1,2,0,0,1]),(3,[1,2,0,2,0]),(2,[1,2,0,2]),(1,[1,2,0]),(0,[1])]) [] (A3 [(0,[4,0]),(1,[1,2,0,2]),(2,[1,2,0,0,0,0]),(3,[1,2,0,0,0,0])]) (some [2,0]) [] [] []
noncomputable def Eb {R:Type} (lf n:Nat) (at0 most1 i2 n3:Int) (l4:LL) (k0:Int->Int->Int->Int->LL->Option R):Option R:=match n with | 0=>none | n+1=>cond (ltI (A4 (i2+n3)) (8:Int)) (cond (inR (A4 (i2+n3)) 8) (cond (okE ⟨true,false,[.int .u16]⟩ l4 (Int.toNat (A4 (i2+n3))) 0) (vl (gE l4 (Int.toNat (A4 (i2+n3))) 0) λn'0=>cond (n'0==0) (Eb lf n at0 most1 i2 (A4 (n3+1)) l4 k0) (k0 at0 most1 i2 n3 l4)) none) none) (k0 at0 most1 i2 n3 l4)
theorem UF (n at0 most1 i2 n3 l4):F0 1 ((R8 lf).keep 6) (bd (R8 lf) cl yh (cd [1,1,0,1,0,0,1,1,0,0,1,1,0,0,0] Kt)) n ⟨gp [(1,.ptr 0 0 0),(2,pI at0),(0,pI most1),(0,pI i2),(0,pI n3),(0,pI i2)] 24,[.arr false 56 1 l4],s⟩ k =
 Eb lf n at0 most1 i2 n3 l4 (λat0 most1 i2 n3 l4=>k (.exit 2) ⟨gp [(1,.ptr 0 0 0),(2,pI at0),(0,pI most1),(0,pI i2),(0,pI n3),(0,pI i2)] 24,[.arr false 56 1 l4],s⟩):=by
 induction n generalizing at0 most1 i2 n3 l4 with
 | zero=>rfl
 | succ n ih=>rw [Eb];simp only [<-ih];kernel_rfl
noncomputable def Bc {R:Type} (lf n:Nat) (at0 most1 n2:Int) (l3:LL) (k0:Int->Int->LL->Option R):Option R:=match n with | 0=>none | n+1=>cond (ltI n2 8) (Eb lf lf at0 most1 n2 0 l3 (λat'1 most'2 i'3 n'4 l'5=>cond (ltI most'2 n'4) (Bc lf n i'3 n'4 (A4 (i'3+1)) l'5 k0) (Bc lf n at'1 most'2 (A4 (i'3+1)) l'5 k0))) (k0 at0 most1 l3)
theorem UG (n at0 most1 n2 l3):F0 1 ((R8 lf).keep 3) (bd (R8 lf) cl yh (cd [1,1,0,1,0,0] Kt)) n ⟨gp [(1,.ptr 0 0 0),(2,pI at0),(0,pI most1),(2,pI n2)] 24,[.arr false 56 1 l3],s⟩ k =
 Bc lf n at0 most1 n2 l3 (λat0 most1 l2=>k (.exit 0) ⟨gp [(4,pI at0),(0,pI most1)] 27,[.arr false 56 1 l2],s⟩):=by
 induction n generalizing at0 most1 n2 l3 with
 | zero=>rfl
 | succ n ih=>rw [Bc];exact (Eq.trans (by kernel_rfl) (A0 ((UF lf cl yh s (H7 2 (I5 (R8 lf) cl yh (cd [1,1,0,1,0,0,1,1,0,0,1,1,1] Kt) (H7 1 (I5 (R8 lf) cl yh (cd [1,1,0,1,0,0,1,1,1] Kt) (lpK 1 ((R8 lf).keep 3) (bd (R8 lf) cl yh (cd [1,1,0,1,0,0] Kt)) n k))))) lf at0 most1 n2 0 l3).trans (congr rfl (fx5 λat'1 most'2 i'3 n'4 l'5=>(Eq.trans (by kernel_rfl) (A0 (ih i'3 n'4 (A4 (i'3+1)) l'5) (ih at'1 most'2 (A4 (i'3+1)) l'5)))))) rfl))
noncomputable def Aq2 {R:Type} (lf:Nat) (a0 a1 a2 a3 a4 a5 a6 a7:Int) (k0:Int->Int->LL->Option R):Option R:=Bc lf lf 0 0 0 [[(SV.int .u16 a0)],[(SV.int .u16 a1)],[(SV.int .u16 a2)],[(SV.int .u16 a3)],[(SV.int .u16 a4)],[(SV.int .u16 a5)],[(SV.int .u16 a6)],[(SV.int .u16 a7)]] (λat'6 most'7 l'8=>k0 at'6 most'7 l'8)
theorem Bp3 (d:Nat) (a0 a1 a2 a3 a4 a5 a6 a7):evC (R8 lf) (d+1) σ yh 110 [.agg [p16 a0,p16 a1,p16 a2,p16 a3,p16 a4,p16 a5,p16 a6,p16 a7]] [] s=Aq2 lf a0 a1 a2 a3 a4 a5 a6 a7 (λr0 r1 l2=>some (.tup [pI r0,pI r1],[.arr false 56 1 l2],s)):=by
 refine (evE (fn:=Tryz.f110) (by kernel_rfl)).trans ?_
 generalize evC (R8 lf) d=cl
 unfold Aq2;exact (Eq.trans (by kernel_rfl) ((UG lf cl yh s (H7 0 (I5 (R8 lf) cl yh (cd [1,1,1] Kt) (G5 (R8 lf) Tryz.f110))) lf 0 0 0 [[(SV.int .u16 a0)],[(SV.int .u16 a1)],[(SV.int .u16 a2)],[(SV.int .u16 a3)],[(SV.int .u16 a4)],[(SV.int .u16 a5)],[(SV.int .u16 a6)],[(SV.int .u16 a7)]]).trans (by kernel_rfl)))
noncomputable abbrev B88:Code:=D0 Tryz.f111
noncomputable def Zn (lf:Nat):Cfg:=B8 lf [111] (A3 [(3,[2,0,2,0,0])]) [(131,A50),(81,IS)] (A3 [(7,[2]),(6,[3,2,0,0]),(5,[3,2,0,0]),(4,[3,1,0,0,0]),(3,[3,2,0,0,0]),(2,[3,2,0,0]),(1,[0,2]),(0,[0])]) [131,81] (A3 [(0,[3]),(1,[3,2,0,0])]) (some [2]) [] [] []
noncomputable def Ns {R:Type} (lf n:Nat) (z0 t1:Bool) (l2:LL) (n3 n4:Int) (l5:LL) (k0:LL->Option R):Option R:=match n with | 0=>none | n+1=>cond (ltI n4 n3) (cond (inR n4 l2.length) (cond (okE ⟨true,false,[.int .u16]⟩ l2 (Int.toNat n4) 0) (vl (Cg6 (gE l2 (Int.toNat n4) 0)) λn'0=>cond (ltN n'0 65536) (cond ((16:Int)==16) (cond (J9 (l5.length+1)) (Ns lf n z0 t1 l2 n3 (A4 (n4+1)) (l5++[[(SV.str (X6 (Int.toNat n'0)))]]) k0) none) none) none) none) none) (k0 l5)
theorem A36 (n z0 t1 l2 n3 n4 l5):F0 1 ((Zn lf).keep 3) (bd (Zn lf) cl yh (cd [1,1,0,1,0,0] B88)) n ⟨gp [(3,.fl 0),(2,.s (.sl z0 t1 1 l2)),(0,pI n3),(0,pI n4)] 12,[.arr true 9 1 l5],s⟩ k =
 Ns lf n z0 t1 l2 n3 n4 l5 (λl0=>k (.exit 0) ⟨gp [(3,.fl 0)] 17,[.arr true 9 1 l0],s⟩):=by
 induction n generalizing z0 t1 l2 n3 n4 l5 with
 | zero=>rfl
 | succ n ih=>rw [Ns];simp only [<-ih];kernel_rfl
noncomputable def v6j {R:Type} (lf:Nat) (l_z0 l_t1:Bool) (l2:LL) (k0:By->LL->Option R):Option R:=Ns lf lf l_z0 l_t1 l2 (l2.length:Int) 0 [] (λl'1=>cond (List.all l'1 isS) (cond (A2 (List.length (Lib.join (List.map elS l'1) ([58]:List UInt8)))) (cond (A2 l'1.length) (vl (Lib.join (List.map elS l'1) ([58]:List UInt8)) λs'2=>k0 s'2 l'1) none) none) none)
theorem Cg0 (d:Nat) (l_z0 l_t1 l2):evC (Zn lf) (d+1) σ yh 111 [.s (.sl l_z0 l_t1 1 l2)] [] s=v6j lf l_z0 l_t1 l2 (λr0 l1=>some (pS r0,[.arr true 9 1 l1],s)):=by
 refine (evE (fn:=Tryz.f111) (by kernel_rfl)).trans ?_
 generalize evC (Zn lf) d=cl
 unfold v6j;exact (Eq.trans (by kernel_rfl) ((A36 lf cl yh s (H7 0 (I5 (Zn lf) cl yh (cd [1,1,1] B88) (G5 (Zn lf) Tryz.f111))) lf l_z0 l_t1 l2 (l2.length:Int) 0 []).trans (by kernel_rfl)))
noncomputable def A85 (lf:Nat):Cfg:=B8 lf [84] (A3 []) [(110,Aj2),(111,B82)] (A3 [(4,[2]),(3,[2]),(2,[1,1,0,6]),(1,[1,1,0]),(0,[1])]) [110,111] (A3 []) (some [2]) [] [] []
noncomputable def v6f {R:Type} (lf:Nat) (a0 a1 a2 a3 a4 a5 a6 a7:Int) (k0:By->LL->Option R):Option R:=cond (ok8 a0 a1 a2 a3 a4 a5 a6 a7) (vl (↑((zGo (n8 a0 a1 a2 a3 a4 a5 a6 a7) 0 0 0)).1:Int) λn'2=>vl (↑((zGo (n8 a0 a1 a2 a3 a4 a5 a6 a7) 0 0 0)).2:Int) λn'3=>cond (ltI n'3 2) (cond (List.all [[(SV.int .u16 a0)],[(SV.int .u16 a1)],[(SV.int .u16 a2)],[(SV.int .u16 a3)],[(SV.int .u16 a4)],[(SV.int .u16 a5)],[(SV.int .u16 a6)],[(SV.int .u16 a7)]] Pe) (cond (Nat.ble 8 8) (vl (Ay (List.map elN [[(SV.int .u16 a0)],[(SV.int .u16 a1)],[(SV.int .u16 a2)],[(SV.int .u16 a3)],[(SV.int .u16 a4)],[(SV.int .u16 a5)],[(SV.int .u16 a6)],[(SV.int .u16 a7)]])) λs'5=>k0 s'5 [[(SV.int .u16 a0)],[(SV.int .u16 a1)],[(SV.int .u16 a2)],[(SV.int .u16 a3)],[(SV.int .u16 a4)],[(SV.int .u16 a5)],[(SV.int .u16 a6)],[(SV.int .u16 a7)]]) none) none) (cond (L3 0 n'2 8) (cond (List.all (List.take ((Int.toNat n'2)-0) [[(SV.int .u16 a0)],[(SV.int .u16 a1)],[(SV.int .u16 a2)],[(SV.int .u16 a3)],[(SV.int .u16 a4)],[(SV.int .u16 a5)],[(SV.int .u16 a6)],[(SV.int .u16 a7)]]) Pe) (cond (Nat.ble (List.length (List.take ((Int.toNat n'2)-0) [[(SV.int .u16 a0)],[(SV.int .u16 a1)],[(SV.int .u16 a2)],[(SV.int .u16 a3)],[(SV.int .u16 a4)],[(SV.int .u16 a5)],[(SV.int .u16 a6)],[(SV.int .u16 a7)]])) 8) (vl (Ay (List.map elN (List.take ((Int.toNat n'2)-0) [[(SV.int .u16 a0)],[(SV.int .u16 a1)],[(SV.int .u16 a2)],[(SV.int .u16 a3)],[(SV.int .u16 a4)],[(SV.int .u16 a5)],[(SV.int .u16 a6)],[(SV.int .u16 a7)]]))) λs'6=>cond (N0 s'6.length 2) (vl (s'6++[58,58]) λs'7=>cond (L3 (A4 (n'2+n'3)) (8:Int) 8) (cond (List.all (List.take (8-(Int.toNat (A4 (n'2+n'3)))) (List.drop (Int.toNat (A4 (n'2+n'3))) [[(SV.int .u16 a0)],[(SV.int .u16 a1)],[(SV.int .u16 a2)],[(SV.int .u16 a3)],[(SV.int .u16 a4)],[(SV.int .u16 a5)],[(SV.int .u16 a6)],[(SV.int .u16 a7)]])) Pe) (cond (Nat.ble (List.length (List.take (8-(Int.toNat (A4 (n'2+n'3)))) (List.drop (Int.toNat (A4 (n'2+n'3))) [[(SV.int .u16 a0)],[(SV.int .u16 a1)],[(SV.int .u16 a2)],[(SV.int .u16 a3)],[(SV.int .u16 a4)],[(SV.int .u16 a5)],[(SV.int .u16 a6)],[(SV.int .u16 a7)]]))) 8) (vl (Ay (List.map elN (List.take (8-(Int.toNat (A4 (n'2+n'3)))) (List.drop (Int.toNat (A4 (n'2+n'3))) [[(SV.int .u16 a0)],[(SV.int .u16 a1)],[(SV.int .u16 a2)],[(SV.int .u16 a3)],[(SV.int .u16 a4)],[(SV.int .u16 a5)],[(SV.int .u16 a6)],[(SV.int .u16 a7)]])))) λs'8=>cond (N0 s'7.length s'8.length) (k0 (s'7++s'8) [[(SV.int .u16 a0)],[(SV.int .u16 a1)],[(SV.int .u16 a2)],[(SV.int .u16 a3)],[(SV.int .u16 a4)],[(SV.int .u16 a5)],[(SV.int .u16 a6)],[(SV.int .u16 a7)]]) none) none) none) none) none) none) none) none)) none
theorem Cf8 (d:Nat) (a0 a1 a2 a3 a4 a5 a6 a7):evC (A85 lf) (d+1) σ yh 84 [.agg [p16 a0,p16 a1,p16 a2,p16 a3,p16 a4,p16 a5,p16 a6,p16 a7]] [] s=v6f lf a0 a1 a2 a3 a4 a5 a6 a7 (λr0 l1=>some (pS r0,[.arr false 56 1 l1],s)):=by
 refine (evE (fn:=Tryz.f84) (by kernel_rfl)).trans ?_
 generalize evC (A85 lf) d=cl
 unfold v6f;kernel_rfl
noncomputable def Zi (lf:Nat):Cfg:=B8 lf [126] (A3 []) [] (A3 [(1,[2]),(0,[0])]) [] (A3 []) (some [2]) [] [] []
noncomputable def ME {R:Type} (lf:Nat) (n0:Int) (k0:Bool->Option R):Option R:=cond (not (ltI n0 0)) (cond (not (ltI 1114111 n0)) (cond (ltI n0 55296) (k0 true) (k0 (ltI 57343 n0))) (k0 false)) (k0 false)
theorem Az6 (d:Nat) (n0):evC (Zi lf) (d+1) σ yh 126 [pI n0] [] s=ME lf n0 (λr0=>some (pB r0,[],s)):=by
 refine (evE (fn:=Tryz.f126) (by kernel_rfl)).trans ?_
 generalize evC (Zi lf) d=cl
 unfold ME;kernel_rfl
noncomputable abbrev Ix:Code:=D0 Tryz.f128
noncomputable def Q9 (lf:Nat):Cfg:=B8 lf [128] (A3 [(6,[0,5,0])]) [] (A3 [(9,[6]),(8,[0,6]),(7,[0,6]),(6,[0,6,11]),(5,[0,6]),(4,[0]),(2,[0,0]),(3,[0,0]),(1,[0,0,6]),(0,[0,0,0])]) [] (A3 [(0,[0,6]),(1,[0,6])]) (some [6]) [] [] []
noncomputable def Cm {R:Type} (lf n:Nat) (delta0 kk1:Int) (k0:Int->Int->Option R):Option R:=match n with | 0=>none | n+1=>cond (ltI 455 delta0) (vl (A4 (Int.tdiv delta0 (35:Int))) λn'6=>vl (A4 (kk1+36)) λn'7=>Cm lf n n'6 n'7 k0) (k0 delta0 kk1)
theorem MA (n delta0 kk1):F0 0 ((Q9 lf).keep 6) (bd (Q9 lf) cl yh (cd [1,1,1,1,0,0,0] Ix)) n ⟨gp [(0,pI delta0),(6,pI kk1)] 23,[],s⟩ k =
 Cm lf n delta0 kk1 (λdelta0 kk1=>k (.exit 0) ⟨gp [(0,pI delta0),(6,pI kk1)] 23,[],s⟩):=by
 induction n generalizing delta0 kk1 with
 | zero=>rfl
 | succ n ih=>rw [Cm];simp only [<-ih];kernel_rfl
noncomputable def Cl {R:Type} (lf:Nat) (delta0 count1:Int) (k0:Int->Option R):Option R:=cond (count1 != 0) (vl (A4 (Int.tdiv delta0 count1)) λn'5=>Cm lf lf (A4 (delta0+n'5)) 0 (λdelta'8 kk'9=>vl (A4 ((36:Int)*delta'8)) λn'10=>vl (A4 (delta'8+38)) λn'11=>cond (n'11 != 0) (vl (A4 (Int.tdiv n'10 n'11)) λn'12=>k0 (A4 (kk'9+n'12))) none)) none
abbrev Vg (b:Code):Prop:=∀ (k:Out->St σ->Option R) delta0 count1,A9 (Q9 lf) cl yh b ⟨gp [(0,pI delta0),(0,pI count1)] 29,[],s⟩ k=Cl lf delta0 count1 (λn0=>k .ret ⟨gp [(6,pI n0)] 24,[],s⟩)
theorem LZ:Vg (R:=R) lf cl yh s (cd [1,1] Ix):=by
 intro k delta0 count1;unfold Cl;exact (Eq.trans (by kernel_rfl) (A0 (A5 λn'5=>((MA lf cl yh s (H7 0 (I5 (Q9 lf) cl yh (cd [1,1,1,1,1] Ix) k)) lf (A4 (delta0+n'5)) 0).trans (by kernel_rfl))) rfl))
noncomputable def BK {R:Type} (lf:Nat) (delta0 count1:Int) (first2:Bool) (k0:Int->Option R):Option R:=cond first2 (vl (A4 (Int.tdiv delta0 (700:Int))) λn'2=>Cl lf n'2 count1 (λn'13=>k0 n'13)) (vl (A4 (Int.tdiv delta0 (2:Int))) λn'3=>Cl lf n'3 count1 (λn'14=>k0 n'14))
theorem Ax9 (b_11:Code) (h_padapt_j0:Vg (R:=PV × List Blk × σ) lf cl yh s b_11) (delta0 count1:Int) (first2:Bool):A9 (Q9 lf) cl yh (cd [] (N4 [1,1] b_11 Ix)) ⟨[pI delta0,pI count1,pB first2]++tps 28,[],s⟩ (G5 (Q9 lf) Tryz.f128)=BK lf delta0 count1 first2 (λr0=>some (pI r0,[],s)):=by
 unfold BK;exact let K0:=(G5 (Q9 lf) Tryz.f128);(Eq.trans (by kernel_rfl) (A0 (A5 λn'2=>((h_padapt_j0 K0 n'2 count1).trans (by kernel_rfl))) (A5 λn'3=>((h_padapt_j0 K0 n'3 count1).trans (by kernel_rfl)))))
theorem Ay0 (d:Nat) (delta0 count1 first2):evC (Q9 lf) (d+1) σ yh 128 [pI delta0,pI count1,pB first2] [] s=BK lf delta0 count1 first2 (λr0=>some (pI r0,[],s)):=
 (evE (fn:=Tryz.f128) (by kernel_rfl)).trans (Eq.trans (by kernel_rfl) (Ax9 lf (evC (Q9 lf) d) yh s (cd [1,1] Ix) (LZ lf (evC (Q9 lf) d) yh s) delta0 count1 first2))
noncomputable def WO (lf:Nat):Cfg:=B8 lf [142] (A3 []) [] (A3 [(3,[2]),(2,[2]),(1,[0,3]),(0,[0])]) [] (A3 []) (some [2]) [] [] []
noncomputable def Bz8 {R:Type} (lf:Nat) (d0:Int) (k0:Int->Option R):Option R:=cond (ltI d0 26) (vl (wu8 (A4 ((97:Int)+d0))) λn'0=>k0 n'0) (vl (A4 ((A4 ((48:Int)+d0))-26)) λn'1=>k0 (wu8 n'1))
theorem Bz9 (d:Nat) (d0):evC (WO lf) (d+1) σ yh 142 [pI d0] [] s=Bz8 lf d0 (λr0=>some (p8 r0,[],s)):=by
 refine (evE (fn:=Tryz.f142) (by kernel_rfl)).trans ?_
 generalize evC (WO lf) d=cl
 unfold Bz8;kernel_rfl
noncomputable abbrev Mr:Code:=D0 Tryz.f156
noncomputable def Fc (lf:Nat):Cfg:=B8 lf [156] (A3 []) [] (A3 [(7,[2]),(2,[2]),(4,[2]),(6,[2]),(5,[0,22]),(3,[0,12]),(1,[0,2]),(0,[0])]) [] (A3 [(0,[])]) (some [2]) [] [] []
noncomputable def Pv {R:Type} (b0:Int) (b1:Bool) (k0:Int->Option R) (k1:Int->Bool->Option R):Option R:=cond b1 (vl (A4 (wu8 (b0-65))) λn'1=>k0 n'1) (cond (not (ltI b0 48)) (cond (not (ltI 57 b0)) (vl (A4 (wu8 (b0-48))) λn'2=>vl (A4 (n'2+26)) λn'3=>k0 n'3) (k1 b0 (not (ltI 57 b0)))) (k1 b0 false))
abbrev FQ (b:Code):Prop:=∀ (k:Out->St σ->Option R) b0 b1,A9 (Fc lf) cl yh b ⟨gp [(0,p8 b0),(12,pB b1)] 20,[],s⟩ k=Pv b0 b1 (λn0=>k .ret ⟨gp [(2,pI n0)] 31,[],s⟩) (λb0 b1=>k .normal ⟨gp [(0,p8 b0),(22,pB b1)] 10,[],s⟩)
theorem Ab5:FQ (R:=R) lf cl yh s (cd [1,0,0,1,1,1] Mr):=by
 intro k b0 b1;unfold Pv;kernel_rfl
noncomputable def Pw {R:Type} (b0:Int) (b1:Bool) (k0:Int->Option R) (k1:Int->Bool->Option R):Option R:=cond b1 (vl (A4 (wu8 (b0-97))) λn'0=>k0 n'0) (cond (not (ltI b0 65)) (Pv b0 (not (ltI 90 b0)) (λn'4=>k0 n'4) (λb'5 b'6=>k1 b'5 b'6)) (Pv b0 false (λn'7=>k0 n'7) (λb'8 b'9=>k1 b'8 b'9)))
abbrev Tl (b:Code):Prop:=∀ (k:Out->St σ->Option R) b0 b1,A9 (Fc lf) cl yh b ⟨gp [(0,p8 b0),(2,pB b1)] 30,[],s⟩ k=Pw b0 b1 (λn0=>k .ret ⟨gp [(2,pI n0)] 31,[],s⟩) (λb0 b1=>k .normal ⟨gp [(0,p8 b0),(22,pB b1)] 10,[],s⟩)
theorem Ab6 (b_100111:Code) (h_pval_j0:FQ (R:=R) lf cl yh s b_100111):Tl (R:=R) lf cl yh s (cd [1,0,0,1] (N4 [1,0,0,1,1,1] b_100111 Mr)):=by
 intro k b0 b1;unfold Pw;simp only [<-h_pval_j0 k];kernel_rfl
theorem Ab7:Tl (R:=R) lf cl yh s (cd [1,0,0,1] Mr):=by
 intro k b0 b1;exact Eq.trans (by kernel_rfl) (Ab6 lf cl yh s (cd [1,0,0,1,1,1] Mr) (Ab5 lf cl yh s) k b0 b1)
noncomputable def Bh1 {R:Type} (lf:Nat) (b0:Int) (k0:Int->Option R):Option R:=cond (not (ltI b0 97)) (Pw b0 (not (ltI 122 b0)) (λn'10=>k0 n'10) (λb'11 b'12=>k0 (-1))) (Pw b0 false (λn'13=>k0 n'13) (λb'14 b'15=>k0 (-1)))
theorem B10 (b_1001:Code) (h_pval_j1:Tl (R:=PV × List Blk × σ) lf cl yh s b_1001) (b0:Int):A9 (Fc lf) cl yh (cd [] (N4 [1,0,0,1] b_1001 Mr)) ⟨[p8 b0]++tps 33,[],s⟩ (G5 (Fc lf) Tryz.f156)=Bh1 lf b0 (λr0=>some (pI r0,[],s)):=by
 unfold Bh1;exact let K0:=(H7 0 (I5 (Fc lf) cl yh (cd [1,1] Mr) (G5 (Fc lf) Tryz.f156)));(Eq.trans (by kernel_rfl) (A0 ((h_pval_j1 K0 b0 (not (ltI 122 b0))).trans (by kernel_rfl)) ((h_pval_j1 K0 b0 false).trans (by kernel_rfl))))
theorem B11 (d:Nat) (b0):evC (Fc lf) (d+1) σ yh 156 [p8 b0] [] s=Bh1 lf b0 (λr0=>some (pI r0,[],s)):=
 (evE (fn:=Tryz.f156) (by kernel_rfl)).trans (Eq.trans (by kernel_rfl) (B10 lf (evC (Fc lf) d) yh s (cd [1,0,0,1] Mr) (Ab7 lf (evC (Fc lf) d) yh s) b0))
end
section
variable {σ R : Type} (lf : Nat) (cl : D3) (yh : Yh σ) (s : σ) (k : Out -> St σ -> Option R)
noncomputable def WK (lf:Nat):Cfg:=B8 lf [53] (A3 []) [] (A3 [(1,[4]),(0,[0,0])]) [] (A3 []) (some [4]) [] [] []
noncomputable def Bx5 {R:Type} (lf:Nat) (s0 prefix1:By) (k0:Bool->Option R):Option R:=cond (not (ltI (s0.length:Int) (prefix1.length:Int))) (cond (L3 0 (prefix1.length:Int) s0.length) (vl (cut s0 0 (prefix1.length:Int)) λs'0=>k0 (s'0==prefix1)) none) (k0 false)
theorem Bx6 (d:Nat) (s0 prefix1):evC (WK lf) (d+1) σ yh 53 [pS s0,pS prefix1] [] s=Bx5 lf s0 prefix1 (λr0=>some (pB r0,[],s)):=by
 refine (evE (fn:=Tryz.f53) (by kernel_rfl)).trans ?_
 generalize evC (WK lf) d=cl
 unfold Bx5;kernel_rfl
noncomputable def WF (lf:Nat):Cfg:=B8 lf [31] (A3 []) [(53,HU)] (A3 [(1,[4]),(0,[0,0])]) [53] (A3 []) (some [4]) [] [] []
noncomputable def Wb {R:Type} (lf:Nat) (s0 prefix1:By) (k0:Bool->Option R):Option R:=cond (A2 s0.length) (k0 (List.isPrefixOf prefix1 s0)) none
theorem Bv6 (d:Nat) (s0 prefix1):evC (WF lf) (d+1) σ yh 31 [pS s0,pS prefix1] [] s=Wb lf s0 prefix1 (λr0=>some (pB r0,[],s)):=by
 refine (evE (fn:=Tryz.f31) (by kernel_rfl)).trans ?_
 generalize evC (WF lf) d=cl
 unfold Wb;kernel_rfl
noncomputable def WL (lf:Nat):Cfg:=B8 lf [122] (A3 []) [] (A3 [(1,[4]),(0,[0,0])]) [] (A3 []) (some [4]) [] [] []
noncomputable def Bx8 {R:Type} (lf:Nat) (s0 suffix1:By) (k0:Bool->Option R):Option R:=cond (not (ltI (s0.length:Int) (suffix1.length:Int))) (vl (A4 ((s0.length:Int)-(suffix1.length:Int))) λn'0=>cond (L3 n'0 (s0.length:Int) s0.length) (vl (cut s0 n'0 (s0.length:Int)) λs'1=>k0 (s'1==suffix1)) none) (k0 false)
theorem Bx9 (d:Nat) (s0 suffix1):evC (WL lf) (d+1) σ yh 122 [pS s0,pS suffix1] [] s=Bx8 lf s0 suffix1 (λr0=>some (pB r0,[],s)):=by
 refine (evE (fn:=Tryz.f122) (by kernel_rfl)).trans ?_
 generalize evC (WL lf) d=cl
 unfold Bx8;kernel_rfl
noncomputable def WG (lf:Nat):Cfg:=B8 lf [113] (A3 []) [(122,UR)] (A3 [(1,[4]),(0,[0,0])]) [122] (A3 []) (some [4]) [] [] []
noncomputable def Bv7 {R:Type} (lf:Nat) (s0 suffix1:By) (k0:Bool->Option R):Option R:=cond (A2 s0.length) (k0 (List.isSuffixOf suffix1 s0)) none
theorem Bv8 (d:Nat) (s0 suffix1):evC (WG lf) (d+1) σ yh 113 [pS s0,pS suffix1] [] s=Bv7 lf s0 suffix1 (λr0=>some (pB r0,[],s)):=by
 refine (evE (fn:=Tryz.f113) (by kernel_rfl)).trans ?_
 generalize evC (WG lf) d=cl
 unfold Bv7;kernel_rfl
noncomputable def JW (lf:Nat):Cfg:=B8 lf [102] (A3 []) [(122,UR)] (A3 [(3,[4]),(2,[4]),(1,[0,0,5]),(0,[0,0])]) [122] (A3 []) (some [4]) [] [] []
noncomputable def Am6 {R:Type} (lf:Nat) (s0 suffix1:By) (k0:By->Option R):Option R:=cond (A2 s0.length) (cond (List.isSuffixOf suffix1 s0) (vl (A4 ((s0.length:Int)-(suffix1.length:Int))) λn'0=>cond (L3 0 n'0 s0.length) (k0 (cut s0 0 n'0)) none) (k0 s0)) none
theorem Be4 (d:Nat) (s0 suffix1):evC (JW lf) (d+1) σ yh 102 [pS s0,pS suffix1] [] s=Am6 lf s0 suffix1 (λr0=>some (pS r0,[],s)):=by
 refine (evE (fn:=Tryz.f102) (by kernel_rfl)).trans ?_
 generalize evC (JW lf) d=cl
 unfold Am6;kernel_rfl
noncomputable def KE (lf:Nat):Cfg:=B8 lf [77] (A3 []) [(102,Ai4)] (A3 [(1,[4]),(0,[0,0])]) [102] (A3 []) (some [4]) [] [] []
noncomputable def Ao7 {R:Type} (lf:Nat) (s0 suffix1:By) (k0:By->Option R):Option R:=cond (A2 s0.length) (k0 (MY s0 suffix1)) none
theorem Bk2 (d:Nat) (s0 suffix1):evC (KE lf) (d+1) σ yh 77 [pS s0,pS suffix1] [] s=Ao7 lf s0 suffix1 (λr0=>some (pS r0,[],s)):=by
 refine (evE (fn:=Tryz.f77) (by kernel_rfl)).trans ?_
 generalize evC (KE lf) d=cl
 unfold Ao7;kernel_rfl
noncomputable def JR (lf:Nat):Cfg:=B8 lf [48] (A3 []) [(53,HU)] (A3 [(3,[4,0]),(2,[4,0]),(1,[0,0,7]),(0,[0,0])]) [53] (A3 []) (some [4,0]) [] [] []
noncomputable def Al9 {R:Type} (lf:Nat) (s0 prefix1:By) (k0:By->Bool->Option R):Option R:=cond (A2 s0.length) (cond (not (List.isPrefixOf prefix1 s0)) (k0 s0 false) (cond (L3 (prefix1.length:Int) (s0.length:Int) s0.length) (vl (cut s0 (prefix1.length:Int) (s0.length:Int)) λs'0=>k0 s'0 true) none)) none
theorem Bd4 (d:Nat) (s0 prefix1):evC (JR lf) (d+1) σ yh 48 [pS s0,pS prefix1] [] s=Al9 lf s0 prefix1 (λr0 r1=>some (.tup [pS r0,pB r1],[],s)):=by
 refine (evE (fn:=Tryz.f48) (by kernel_rfl)).trans ?_
 generalize evC (JR lf) d=cl
 unfold Al9;kernel_rfl
noncomputable def VY (lf:Nat):Cfg:=B8 lf [29] (A3 []) [(48,Ai0)] (A3 [(1,[4,0]),(0,[0,0])]) [48] (A3 []) (some [4,0]) [] [] []
noncomputable def Br5 {R:Type} (lf:Nat) (s0 prefix1:By) (k0:By->Bool->Option R):Option R:=cond (A2 s0.length) (k0 (Dd s0 prefix1) (List.isPrefixOf prefix1 s0)) none
theorem Br6 (d:Nat) (s0 prefix1):evC (VY lf) (d+1) σ yh 29 [pS s0,pS prefix1] [] s=Br5 lf s0 prefix1 (λr0 r1=>some (.tup [pS r0,pB r1],[],s)):=by
 refine (evE (fn:=Tryz.f29) (by kernel_rfl)).trans ?_
 generalize evC (VY lf) d=cl
 unfold Br5;kernel_rfl
noncomputable abbrev OQ:Code:=D0 Tryz.f103
noncomputable def Aq (lf:Nat):Cfg:=B8 lf [103] (A3 [(11,[0,0,0,0,4,0,0])]) [(123,Fq),(124,UY),(116,Yg)] (A3 [(18,[8]),(17,[9,0]),(16,[0,0,0,0,5,0]),(15,[0,0,0,0,5,0]),(14,[0,0,0,0,5,0,0]),(13,[0,0,0,0,5,0,0,29]),(12,[0,0,0,0,5,0,0]),(11,[0,0,0,0,5,0,25]),(10,[0,0,0,0,5,0]),(9,[0,0,0,0,5]),(8,[0,0,0,0,5]),(7,[0,0,0,0]),(6,[0,0,0,0]),(5,[0,0,0,0,16]),(4,[8]),(3,[0,0,0,0,11]),(2,[8]),(1,[0,0,0,0,9]),(0,[0,0,0,0])]) [124,116] (A3 [(0,[0,8,0]),(1,[0,0,0,0,5,0])]) (some [8]) [] [] []
noncomputable def V9 {R:Type} (lf n:Nat) (s0 sep1:By) (sepSave2 n3 i4:Int) (l5:LL) (k0:By->Int->LL->Option R):Option R:=match n with | 0=>none | n+1=>cond (ltI i4 n3) (cond (A2 s0.length) (cond (ltI (Lib.index s0 sep1) (0:Int)) (k0 s0 i4 l5) (vl (A4 ((Lib.index s0 sep1)+sepSave2)) λn'12=>cond (L3 0 n'12 s0.length) (cond (inR i4 l5.length) (cond (decide ((Int.toNat i4)<l5.length)) (vl (List.set l5 (Int.toNat i4) (E0 (List.getD l5 (Int.toNat i4) []) 0 [(SV.str (cut s0 0 n'12))])) λl'13=>vl (A4 ((Lib.index s0 sep1)+(sep1.length:Int))) λn'14=>cond (L3 n'14 (s0.length:Int) s0.length) (vl (cut s0 n'14 (s0.length:Int)) λs'15=>V9 lf n s'15 sep1 sepSave2 n3 (A4 (i4+1)) l'13 k0) none) none) none) none)) none) (k0 s0 i4 l5)
theorem Oz (n s0 sep1 sepSave2 n3 i4 l5):F0 1 ((Aq lf).keep 11) (bd (Aq lf) cl yh (cd [1,1,1,1,1,1,1,1,0,0,0] OQ)) n ⟨gp [(0,pS s0),(0,pS sep1),(0,pI sepSave2),(0,pI n3),(5,.fl 0),(0,pI i4)] 55,[.arr false 9 1 l5],s⟩ k =
 V9 lf n s0 sep1 sepSave2 n3 i4 l5 (λs0 i1 l2=>k (.exit 0) ⟨gp [(0,pS s0),(8,.fl 0),(0,pI i1)] 55,[.arr false 9 1 l2],s⟩):=by
 induction n generalizing s0 sep1 sepSave2 n3 i4 l5 with
 | zero=>rfl
 | succ n ih=>rw [V9];simp only [<-ih];kernel_rfl
noncomputable def AJ {R:Type} (lf:Nat) (s0 sep1:By) (sepSave2 n3:Int) (k0:Unit->Option R) (k1:Nat->LL->Option R):Option R:=cond (n3==0) (k0 ()) (cond (sep1==[]) none (cond (ltI n3 0) (cond (sep1.length==1) (vl (↑(List.count (List.getD sep1 0 0) s0):Int) λn'1=>vl (A4 ((s0.length:Int)+1)) λn'4=>vl (if (n'4<(A4 (n'1+1))) then n'4 else (A4 (n'1+1))) λn'5=>cond (((decide ((0:Int)<=n'5))&&(decide (n'5<=n'5)))&&(J9 (Int.toNat n'5))) (V9 lf lf s0 sep1 sepSave2 (A4 (n'5-1)) 0 (List.replicate (Int.toNat n'5) [(SV.str ([]:List UInt8))]) (λs'16 i'17 l'18=>cond (inR i'17 l'18.length) (cond (decide ((Int.toNat i'17)<l'18.length)) (vl (List.set l'18 (Int.toNat i'17) (E0 (List.getD l'18 (Int.toNat i'17) []) 0 [(SV.str s'16)])) λl'19=>vl (A4 (i'17+1)) λn'20=>cond (L3 0 n'20 l'19.length) (k1 ((Int.toNat n'20)-0) l'19) none) none) none)) none) none) (vl (A4 ((s0.length:Int)+1)) λn'8=>vl (if (n'8<n3) then n'8 else n3) λn'9=>cond (((decide ((0:Int)<=n'9))&&(decide (n'9<=n'9)))&&(J9 (Int.toNat n'9))) (V9 lf lf s0 sep1 sepSave2 (A4 (n'9-1)) 0 (List.replicate (Int.toNat n'9) [(SV.str ([]:List UInt8))]) (λs'21 i'22 l'23=>cond (inR i'22 l'23.length) (cond (decide ((Int.toNat i'22)<l'23.length)) (vl (List.set l'23 (Int.toNat i'22) (E0 (List.getD l'23 (Int.toNat i'22) []) 0 [(SV.str s'21)])) λl'24=>vl (A4 (i'22+1)) λn'25=>cond (L3 0 n'25 l'24.length) (k1 ((Int.toNat n'25)-0) l'24) none) none) none)) none)))
theorem EU (d:Nat) (s0 sep1 sepSave2 n3):evC (Aq lf) (d+1) σ yh 103 [pS s0,pS sep1,pI sepSave2,pI n3] [] s=AJ lf s0 sep1 sepSave2 n3 (λ_=>some (.fl 0,[.arr true 9 1 []],s)) (λr_m0 l1=>some (.vw 0 0 r_m0,[.arr false 9 1 l1],s)):=by
 refine (evE (fn:=Tryz.f103) (by kernel_rfl)).trans ?_
 generalize evC (Aq lf) d=cl
 unfold AJ;exact let K0:=(H7 0 (I5 (Aq lf) cl yh (cd [1,1,1,1,1,1,1,1,1] OQ) (G5 (Aq lf) Tryz.f103)));(Eq.trans (by kernel_rfl) (A0 rfl (A0 rfl (A0 (A0 (A5 λn'1=>(A5 λn'4=>(A5 λn'5=>(A0 ((Oz lf cl yh s K0 lf s0 sep1 sepSave2 (A4 (n'5-1)) 0 (List.replicate (Int.toNat n'5) [(SV.str ([]:List UInt8))])).trans (by kernel_rfl)) rfl)))) rfl) (A5 λn'8=>(A5 λn'9=>(A0 ((Oz lf cl yh s K0 lf s0 sep1 sepSave2 (A4 (n'9-1)) 0 (List.replicate (Int.toNat n'9) [(SV.str ([]:List UInt8))])).trans (by kernel_rfl)) rfl)))))))
noncomputable def Zj (lf:Nat):Cfg:=B8 lf [79] (A3 []) [(103,NX)] (A3 [(1,[4]),(0,[0,0])]) [] (A3 []) (some [4]) [] [] []
noncomputable def MT {R:Type} (lf:Nat) (s0 sep1:By) (k0:LL->Option R):Option R:=cond (A2 s0.length) (cond (sep1.length==1) (cond ((0:Int)==0) (cond (((-1):Int)==((-1):Int)) (vl (C5 (pcs (List.getD sep1 0 0) s0)) λl'0=>k0 l'0) none) none) none) none
theorem A15 (d:Nat) (s0 sep1):evC (Zj lf) (d+1) σ yh 79 [pS s0,pS sep1] [] s=MT lf s0 sep1 (λr0=>some (.s (.sl false false 1 r0),[],s)):=by
 refine (evE (fn:=Tryz.f79) (by kernel_rfl)).trans ?_
 generalize evC (Zj lf) d=cl
 unfold MT;kernel_rfl
noncomputable abbrev A76:Code:=D0 Tryz.f27
noncomputable def Mt (lf:Nat):Cfg:=B8 lf [27] (A3 [(3,[0,1,0,6,0])]) [] (A3 [(10,[2]),(9,[0,2,6,0]),(8,[0,2,6,0]),(7,[0,2,1,4,0]),(6,[0,2,1,4,0,10]),(5,[0,2,1,4,0]),(4,[0,2,0,5,0]),(3,[0,2,6,0,0]),(2,[0,2,6,0]),(1,[0,2]),(0,[0])]) [] (A3 [(0,[3]),(1,[0,2,6,0])]) (some [2]) [] [] []
noncomputable def Bw {R:Type} (lf n:Nat) (s0:By) (n1 n2:Int) (l3:LL) (k0:LL->Option R):Option R:=match n with | 0=>none | n+1=>cond (ltI n2 n1) (cond (inR n2 s0.length) (cond (not (ltI (bAt s0 n2) (65:Int))) (cond (not (ltI 90 (bAt s0 n2))) (vl (wu8 ((bAt s0 n2)+32)) λn'0=>cond (J9 (l3.length+1)) (Bw lf n s0 n1 (A4 (n2+1)) (l3++[[(SV.int .u8 n'0)]]) k0) none) (cond (J9 (l3.length+1)) (Bw lf n s0 n1 (A4 (n2+1)) (l3++[[(SV.int .u8 (bAt s0 n2))]]) k0) none)) (cond (J9 (l3.length+1)) (Bw lf n s0 n1 (A4 (n2+1)) (l3++[[(SV.int .u8 (bAt s0 n2))]]) k0) none)) none) (k0 l3)
theorem ZA (n s0 n1 n2 l3):F0 1 ((Mt lf).keep 3) (bd (Mt lf) cl yh (cd [1,1,0,1,0,0] A76)) n ⟨gp [(0,pS s0),(2,.fl 0),(6,pI n1),(0,pI n2)] 20,[.arr false 5 1 l3],s⟩ k =
 Bw lf n s0 n1 n2 l3 (λl0=>k (.exit 0) ⟨gp [(3,.fl 0)] 28,[.arr false 5 1 l0],s⟩):=by
 induction n generalizing s0 n1 n2 l3 with
 | zero=>rfl
 | succ n ih=>rw [Bw];simp only [<-ih];kernel_rfl
noncomputable def Bx3 {R:Type} (lf:Nat) (s0:By) (k0:By->LL->Option R):Option R:=cond ((decide ((0:Int)<=(s0.length:Int)))&&(J9 (Int.toNat (s0.length:Int)))) (Bw lf lf s0 (s0.length:Int) 0 [] (λl'1=>cond (List.all l'1 AQ) (k0 (List.map Vx l'1) l'1) none)) none
theorem Bx4 (d:Nat) (s0):evC (Mt lf) (d+1) σ yh 27 [pS s0] [] s=Bx3 lf s0 (λr0 l1=>some (pS r0,[.arr false 5 1 l1],s)):=by
 refine (evE (fn:=Tryz.f27) (by kernel_rfl)).trans ?_
 generalize evC (Mt lf) d=cl
 unfold Bx3;exact (Eq.trans (by kernel_rfl) (A0 ((ZA lf cl yh s (H7 0 (I5 (Mt lf) cl yh (cd [1,1,1] A76) (G5 (Mt lf) Tryz.f27))) lf s0 (s0.length:Int) 0 []).trans (by kernel_rfl)) rfl))
noncomputable def WD (lf:Nat):Cfg:=B8 lf [89] (A3 []) [(31,Xn)] (A3 [(1,[2]),(0,[0])]) [31] (A3 []) (some [2]) [] [] []
noncomputable def Bu8 {R:Type} (lf:Nat) (s0:By) (k0:Bool->Option R):Option R:=cond (A2 s0.length) (cond (List.isPrefixOf ([48,120]:List UInt8) s0) (k0 true) (cond (A2 s0.length) (k0 (List.isPrefixOf ([48,88]:List UInt8) s0)) none)) none
theorem Bu9 (d:Nat) (s0):evC (WD lf) (d+1) σ yh 89 [pS s0] [] s=Bu8 lf s0 (λr0=>some (pB r0,[],s)):=by
 refine (evE (fn:=Tryz.f89) (by kernel_rfl)).trans ?_
 generalize evC (WD lf) d=cl
 unfold Bu8;kernel_rfl
noncomputable abbrev Be:Code:=D0 Tryz.f91
noncomputable def P8 (lf:Nat):Cfg:=B8 lf [91] (A3 [(3,[0,0,2,0,0,4,0])]) [] (A3 [(18,[4,0]),(17,[0,0,4,4,0]),(16,[0,0,4,4,0]),(15,[4,0]),(14,[0,0,4,1,2,0,39]),(9,[0,0,4,1,2,0]),(11,[0,0,4,1,2,0]),(13,[0,0,4,1,2,0]),(7,[4,0]),(12,[0,0,4,2,1,0,26]),(10,[0,0,4,2,1,0,15]),(8,[0,0,4,2,1,0,5]),(6,[0,0,4,2,1,0]),(5,[0,0,4,0,3,0]),(4,[0,0,4,0,3,0]),(3,[0,0,4,4,0,0]),(2,[0,0,4,4,0]),(1,[0,0,4]),(0,[0,0])]) [] (A3 [(0,[6]),(1,[0,0,4,4,0]),(2,[0,0,4,1,2,0])]) (some [4,0]) [] [] []
noncomputable def Oj {R:Type} (s0:By) (base1 n2 b3 n4 n5:Int) (b6:Bool) (k0:By->Int->Int->Int->Int->Int->Option R) (k1:Unit->Option R):Option R:=cond b6 (vl (A4 (wu8 (b3-97))) λn'1=>vl (A4 (n'1+10)) λn'2=>k0 s0 base1 n2 n'2 n4 n5) (cond (not (ltI b3 65)) (cond (not (ltI 70 b3)) (vl (A4 (wu8 (b3-65))) λn'3=>vl (A4 (n'3+10)) λn'4=>k0 s0 base1 n2 n'4 n4 n5) (k1 ())) (k1 ()))
abbrev EN (b:Code):Prop:=∀ (k:Out->St σ->Option R) s0 base1 n2 b3 n4 n5 b6,A9 (P8 lf) cl yh b ⟨gp [(0,pS s0),(0,pI base1),(4,pI n2),(2,p8 b3),(1,pI n4),(0,pI n5),(15,pB b6)] 32,[],s⟩ k=Oj s0 base1 n2 b3 n4 n5 b6 (λs0 base1 n2 d3 n4 n5=>k .normal ⟨gp [(0,pS s0),(0,pI base1),(4,pI n2),(1,pI d3),(2,pI n4),(0,pI n5)] 48,[],s⟩) (λ_=>k .ret ⟨gp [(4,pI (0:Int)),(0,pB false)] 55,[],s⟩)
theorem XF:EN (R:=R) lf cl yh s (cd [1,1,0,1,0,0,1,1,0,0,1,1,0,1,0,1,1,1] Be):=by
 intro k s0 base1 n2 b3 n4 n5 b6;unfold Oj;kernel_rfl
noncomputable def Ok {R:Type} (s0:By) (base1 n2 b3 n4 n5:Int) (b6:Bool) (k0:By->Int->Int->Int->Int->Int->Option R) (k1:Unit->Option R):Option R:=cond b6 (vl (A4 (wu8 (b3-48))) λn'0=>k0 s0 base1 n2 n'0 n4 n5) (cond (not (ltI b3 97)) (Oj s0 base1 n2 b3 n4 n5 (not (ltI 102 b3)) (λs'5 base'6 n'7 d'8 n'9 n'10=>k0 s'5 base'6 n'7 d'8 n'9 n'10) (λ_=>k1 ())) (Oj s0 base1 n2 b3 n4 n5 false (λs'11 base'12 n'13 d'14 n'15 n'16=>k0 s'11 base'12 n'13 d'14 n'15 n'16) (λ_=>k1 ())))
abbrev Kz (b:Code):Prop:=∀ (k:Out->St σ->Option R) s0 base1 n2 b3 n4 n5 b6,A9 (P8 lf) cl yh b ⟨gp [(0,pS s0),(0,pI base1),(4,pI n2),(2,p8 b3),(1,pI n4),(0,pI n5),(5,pB b6)] 42,[],s⟩ k=Ok s0 base1 n2 b3 n4 n5 b6 (λs0 base1 n2 d3 n4 n5=>k .normal ⟨gp [(0,pS s0),(0,pI base1),(4,pI n2),(1,pI d3),(2,pI n4),(0,pI n5)] 48,[],s⟩) (λ_=>k .ret ⟨gp [(4,pI (0:Int)),(0,pB false)] 55,[],s⟩)
theorem XG (b_110100110011010111:Code) (h_digs_j0:EN (R:=R) lf cl yh s b_110100110011010111):Kz (R:=R) lf cl yh s (cd [1,1,0,1,0,0,1,1,0,0,1,1,0,1,0,1] (N4 [1,1,0,1,0,0,1,1,0,0,1,1,0,1,0,1,1,1] b_110100110011010111 Be)):=by
 intro k s0 base1 n2 b3 n4 n5 b6;unfold Ok;simp only [<-h_digs_j0 k];kernel_rfl
theorem XH:Kz (R:=R) lf cl yh s (cd [1,1,0,1,0,0,1,1,0,0,1,1,0,1,0,1] Be):=by
 intro k s0 base1 n2 b3 n4 n5 b6;exact Eq.trans (by kernel_rfl) (XG lf cl yh s (cd [1,1,0,1,0,0,1,1,0,0,1,1,0,1,0,1,1,1] Be) (XF lf cl yh s) k s0 base1 n2 b3 n4 n5 b6)
noncomputable def Ol {R:Type} (s0:By) (base1 n2 d3 n4 n5:Int) (k0:Unit->Option R) (k1:By->Int->Int->Int->Int->Option R):Option R:=cond (not (ltI d3 base1)) (k0 ()) (vl (A4 ((A4 (n2*base1))+d3)) λn'23=>vl (if ((1099511627776:Int)<n'23) then (1099511627776:Int) else n'23) λn'24=>k1 s0 base1 n'24 n4 n5)
abbrev Sr (b:Code):Prop:=∀ (k:Out->St σ->Option R) s0 base1 n2 d3 n4 n5,A9 (P8 lf) cl yh b ⟨gp [(0,pS s0),(0,pI base1),(4,pI n2),(1,pI d3),(2,pI n4),(0,pI n5)] 48,[],s⟩ k=Ol s0 base1 n2 d3 n4 n5 (λ_=>k .ret ⟨gp [(4,pI (0:Int)),(0,pB false)] 55,[],s⟩) (λs0 base1 n2 n3 n4=>k .normal ⟨gp [(0,pS s0),(0,pI base1),(4,pI n2),(4,pI n3),(0,pI n4)] 48,[],s⟩)
theorem XI:Sr (R:=R) lf cl yh s (cd [1,1,0,1,0,0,1,1,0,0,1,1,1] Be):=by
 intro k s0 base1 n2 d3 n4 n5;unfold Ol;kernel_rfl
noncomputable def Eg {R:Type} (lf n:Nat) (s0:By) (base1 n2 n3 n4:Int) (k0:Unit->Option R) (k1:Int->Option R):Option R:=match n with | 0=>none | n+1=>cond (ltI n4 n3) (cond (inR n4 s0.length) (cond (not (ltI (bAt s0 n4) (48:Int))) (Ok s0 base1 n2 (bAt s0 n4) n3 n4 (not (ltI 57 (bAt s0 n4))) (λs'17 base'18 n'19 d'20 n'21 n'22=>Ol s'17 base'18 n'19 d'20 n'21 n'22 (λ_=>k0 ()) (λs'25 base'26 n'27 n'28 n'29=>vl (A4 (n'29+1)) λn'30=>Eg lf n s'25 base'26 n'27 n'28 n'30 k0 k1)) (λ_=>k0 ())) (Ok s0 base1 n2 (bAt s0 n4) n3 n4 false (λs'31 base'32 n'33 d'34 n'35 n'36=>Ol s'31 base'32 n'33 d'34 n'35 n'36 (λ_=>k0 ()) (λs'37 base'38 n'39 n'40 n'41=>vl (A4 (n'41+1)) λn'42=>Eg lf n s'37 base'38 n'39 n'40 n'42 k0 k1)) (λ_=>k0 ()))) none) (k1 n2)
theorem XJ (b_1101001100110101:Code) (h_digs_j1:Kz (R:=R) lf cl yh s b_1101001100110101) (b_1101001100111:Code) (h_digs_j2:Sr (R:=R) lf cl yh s b_1101001100111) (n:Nat) (s0:By) (base1 n2 n3 n4:Int):F0 0 ((P8 lf).keep 3) (bd (P8 lf) cl yh (cd [1,1,0,1,0,0] (N4 [1,1,0,1,0,0,1,1,0,0,1,1,1] b_1101001100111 (N4 [1,1,0,1,0,0,1,1,0,0,1,1,0,1,0,1] b_1101001100110101 Be)))) n ⟨gp [(0,pS s0),(0,pI base1),(4,pI n2),(4,pI n3),(0,pI n4)] 48,[],s⟩ k =
 Eg lf n s0 base1 n2 n3 n4 (λ_=>k .ret ⟨gp [(4,pI (0:Int)),(0,pB false)] 55,[],s⟩) (λn0=>k (.exit 0) ⟨gp [(6,pI n0)] 54,[],s⟩):=by
 induction n generalizing s0 base1 n2 n3 n4 with
 | zero=>rfl
 | succ n ih=>rw [Eg];exact let K0:=(H7 1 (I5 (P8 lf) cl yh (cd [1,1,0,1,0,0,1,1,1] Be) (lpK 0 ((P8 lf).keep 3) (bd (P8 lf) cl yh (cd [1,1,0,1,0,0] (N4 [1,1,0,1,0,0,1,1,0,0,1,1,1] b_1101001100111 (N4 [1,1,0,1,0,0,1,1,0,0,1,1,0,1,0,1] b_1101001100110101 Be)))) n k)));let K1:=(H7 2 (I5 (P8 lf) cl yh b_1101001100111 K0));(Eq.trans (by kernel_rfl) (A0 (A0 (A0 ((h_digs_j1 K1 s0 base1 n2 (bAt s0 n4) n3 n4 (not (ltI 57 (bAt s0 n4)))).trans (congr (congr rfl (fx6 λs'17 base'18 n'19 d'20 n'21 n'22=>(Eq.trans (by kernel_rfl) ((h_digs_j2 K0 s'17 base'18 n'19 d'20 n'21 n'22).trans (congr (congr rfl (by kernel_rfl)) (fx5 λs'25 base'26 n'27 n'28 n'29=>(Eq.trans (by kernel_rfl) (A5 λn'30=>(ih s'25 base'26 n'27 n'28 n'30))))))))) (by kernel_rfl))) ((h_digs_j1 K1 s0 base1 n2 (bAt s0 n4) n3 n4 false).trans (congr (congr rfl (fx6 λs'31 base'32 n'33 d'34 n'35 n'36=>(Eq.trans (by kernel_rfl) ((h_digs_j2 K0 s'31 base'32 n'33 d'34 n'35 n'36).trans (congr (congr rfl (by kernel_rfl)) (fx5 λs'37 base'38 n'39 n'40 n'41=>(Eq.trans (by kernel_rfl) (A5 λn'42=>(ih s'37 base'38 n'39 n'40 n'42))))))))) (by kernel_rfl)))) rfl) rfl))
noncomputable def A97 {R:Type} (lf:Nat) (s0:By) (base1:Int) (k0:Int->Bool->Option R):Option R:=Eg lf lf s0 base1 0 (s0.length:Int) 0 (λ_=>k0 0 false) (λn'43=>k0 n'43 true)
theorem Bs6 (b_1101001100110101:Code) (h_digs_j1:Kz (R:=PV × List Blk × σ) lf cl yh s b_1101001100110101) (b_1101001100111:Code) (h_digs_j2:Sr (R:=PV × List Blk × σ) lf cl yh s b_1101001100111) (s0:By) (base1:Int):A9 (P8 lf) cl yh (cd [] (N4 [1,1,0,1,0,0,1,1,0,0,1,1,1] b_1101001100111 (N4 [1,1,0,1,0,0,1,1,0,0,1,1,0,1,0,1] b_1101001100110101 Be))) ⟨[pS s0,pI base1]++tps 59,[],s⟩ (G5 (P8 lf) Tryz.f91)=A97 lf s0 base1 (λr0 r1=>some (.tup [pI r0,pB r1],[],s)):=by
 unfold A97;exact (Eq.trans (by kernel_rfl) ((XJ lf cl yh s (H7 0 (I5 (P8 lf) cl yh (cd [1,1,1] Be) (G5 (P8 lf) Tryz.f91))) b_1101001100110101 h_digs_j1 b_1101001100111 h_digs_j2 lf s0 base1 0 (s0.length:Int) 0).trans (by kernel_rfl)))
theorem Bs7 (d:Nat) (s0 base1):evC (P8 lf) (d+1) σ yh 91 [pS s0,pI base1] [] s=A97 lf s0 base1 (λr0 r1=>some (.tup [pI r0,pB r1],[],s)):=
 (evE (fn:=Tryz.f91) (by kernel_rfl)).trans (Eq.trans (by kernel_rfl) (Bs6 lf (evC (P8 lf) d) yh s (cd [1,1,0,1,0,0,1,1,0,0,1,1,0,1,0,1] Be) (XH lf (evC (P8 lf) d) yh s) (cd [1,1,0,1,0,0,1,1,0,0,1,1,1] Be) (XI lf (evC (P8 lf) d) yh s) s0 base1))
noncomputable def A84 (lf:Nat):Cfg:=B8 lf [90] (A3 []) [(89,UK),(91,GR)] (A3 [(7,[2,0]),(2,[2,0]),(4,[2,0]),(6,[2,0]),(5,[0,14]),(3,[0,6]),(1,[0,3]),(0,[0])]) [89,91] (A3 [(0,[0])]) (some [2,0]) [] [] []
noncomputable def num {R:Type} (lf:Nat) (s0:By) (k0:Int->Bool->Option R):Option R:=cond (s0==[]) (k0 0 false) (cond (A2 s0.length) (cond (El s0) (cond (L3 2 (s0.length:Int) s0.length) (vl (cut s0 2 (s0.length:Int)) λs'0=>cond (A2 s'0.length) (cond (ltN 16 17) (vl (↑(Az (G6 16 0 s'0)):Int) λn'1=>k0 n'1 (Option.isSome (G6 16 0 s'0))) none) none) none) (cond (ltI 1 (s0.length:Int)) (cond (inR 0 s0.length) (cond ((bAt s0 (0:Int))==48) (cond (L3 1 (s0.length:Int) s0.length) (vl (cut s0 1 (s0.length:Int)) λs'2=>cond (A2 s'2.length) (cond (ltN 8 17) (vl (↑(Az (G6 8 0 s'2)):Int) λn'3=>k0 n'3 (Option.isSome (G6 8 0 s'2))) none) none) none) (cond (A2 s0.length) (cond (ltN 10 17) (vl (↑(Az (G6 10 0 s0)):Int) λn'4=>k0 n'4 (Option.isSome (G6 10 0 s0))) none) none)) none) (cond (A2 s0.length) (cond (ltN 10 17) (vl (↑(Az (G6 10 0 s0)):Int) λn'5=>k0 n'5 (Option.isSome (G6 10 0 s0))) none) none))) none)
theorem Cd4 (d:Nat) (s0):evC (A84 lf) (d+1) σ yh 90 [pS s0] [] s=num lf s0 (λr0 r1=>some (.tup [pI r0,pB r1],[],s)):=by
 refine (evE (fn:=Tryz.f90) (by kernel_rfl)).trans ?_
 generalize evC (A84 lf) d=cl
 unfold num;kernel_rfl
noncomputable def JY (lf:Nat):Cfg:=B8 lf [88] (A3 []) [(79,Ny)] (A3 [(5,[2]),(4,[3]),(3,[3,0,13]),(2,[3,0]),(1,[3]),(0,[0])]) [] (A3 []) (some [2]) [] [] []
noncomputable def parts {R:Type} (lf:Nat) (s0:By) (k0:LL->Option R):Option R:=cond (A2 s0.length) (cond (1==1) (vl (C5 (pcs (List.getD ([46]:List UInt8) 0 0) s0)) λl'1=>vl (A4 ((l'1.length:Int)-1)) λn'3=>cond (ltI 0 n'3) (cond (inR n'3 l'1.length) (cond (okE Qq l'1 (Int.toNat n'3) 0) (vl (gX l'1 (Int.toNat n'3) 0) λs'4=>cond (s'4==[]) (cond (L3 0 n'3 l'1.length) (k0 (cut l'1 0 n'3)) none) (k0 l'1)) none) none) (k0 l'1)) none) none
theorem Bg5 (d:Nat) (s0):evC (JY lf) (d+1) σ yh 88 [pS s0] [] s=parts lf s0 (λr0=>some (.s (.sl false false 1 r0),[],s)):=by
 refine (evE (fn:=Tryz.f88) (by kernel_rfl)).trans ?_
 generalize evC (JY lf) d=cl
 unfold parts;kernel_rfl
noncomputable def Sg (lf:Nat):Cfg:=B8 lf [62] (A3 []) [(88,IE),(89,UK),(90,A58),(91,GR)] (A3 [(7,[2]),(6,[4,3]),(5,[2]),(4,[6]),(3,[4,13]),(2,[4]),(1,[3]),(0,[0])]) [89,90,91] (A3 []) (some [2]) [] [] []
noncomputable def Wv {R:Type} (lf:Nat) (s0:By) (k0:Bool->Option R):Option R:=cond (A2 s0.length) (vl (A4 ((↑(List.length (C5 (D1 s0))):Int)-1)) λn'2=>cond (inR n'2 (List.length (C5 (D1 s0)))) (cond (okE Qq (C5 (D1 s0)) (Int.toNat n'2) 0) (vl (gX (C5 (D1 s0)) (Int.toNat n'2) 0) λs'3=>cond (A2 s'3.length) (cond (El s'3) (cond (A2 s'3.length) (vl (↑(Az (Lq s'3)):Int) λn'5=>k0 (Option.isSome (Lq s'3))) none) (cond (A2 s'3.length) (cond (ltN 10 17) (vl (↑(Az (G6 10 0 s'3)):Int) λn'6=>cond (Option.isSome (G6 10 0 s'3)) (k0 (not (s'3==[]))) (k0 false)) none) none)) none) none) none) none
theorem ZR (d:Nat) (s0):evC (Sg lf) (d+1) σ yh 62 [pS s0] [] s=Wv lf s0 (λr0=>some (pB r0,[],s)):=by
 refine (evE (fn:=Tryz.f62) (by kernel_rfl)).trans ?_
 generalize evC (Sg lf) d=cl
 unfold Wv;kernel_rfl
noncomputable abbrev A78:Code:=D0 Tryz.f78
noncomputable def Mv (lf:Nat):Cfg:=B8 lf [78] (A3 [(6,[2,0,0,0,10,0,0])]) [(88,IE),(90,A58)] (A3 [(20,[2,0]),(19,[4,0,10,0,0]),(18,[4,0,10,0,0]),(17,[2,0]),(16,[4,0,2,1,5,0,0,29]),(15,[4,0,2,1,5,0,0]),(14,[4,0,10,0,0]),(13,[2,0]),(12,[4,0,2,7,0,0,17]),(11,[4,0,2,7,0,0,15]),(10,[2,0]),(9,[4,0,0,1,7,0,0,10]),(8,[4,0,0,1,0,6,0,0]),(7,[4,0,0,0,8,0,0]),(6,[4,0,10,0,0,0]),(5,[4,0,10,0,0]),(4,[4,0]),(3,[2,0]),(2,[4,10]),(1,[4]),(0,[0])]) [90] (A3 [(0,[5]),(1,[4,0,10,0,0])]) (some [2,0]) [] [] []
noncomputable def Et {R:Type} (lf n:Nat) (l0:LL) (v1 n2 n3:Int) (k0:Unit->Option R) (k1:Int->Option R):Option R:=match n with | 0=>none | n+1=>cond (ltI n3 n2) (cond (inR n3 l0.length) (cond (okE Qq l0 (Int.toNat n3) 0) (cond (A2 (List.length (gX l0 (Int.toNat n3) 0))) (vl (↑(Az (Lq (gX l0 (Int.toNat n3) 0))):Int) λn'1=>cond (not (Option.isSome (Lq (gX l0 (Int.toNat n3) 0)))) (k0 ()) (vl (A4 ((l0.length:Int)-1)) λn'6=>cond (ltI n3 n'6) (cond (ltI 255 n'1) (k0 ()) (vl (bOr .i64 (Qf .i64 v1 (8:Int)) n'1) λn'7=>Et lf n l0 n'7 n2 (A4 (n3+1)) k0 k1)) (vl (A4 ((5:Int)-(l0.length:Int))) λn'9=>cond (decide ((0:Int)<=(A4 ((8:Int)*n'9)))) (vl (Qf .i64 (1:Int) (A4 ((8:Int)*n'9))) λn'10=>cond (not (ltI n'1 n'10)) (k0 ()) (cond (decide ((0:Int)<=(A4 ((8:Int)*n'9)))) (vl (Qf .i64 v1 (A4 ((8:Int)*n'9))) λn'11=>Et lf n l0 (bOr .i64 n'11 n'1) n2 (A4 (n3+1)) k0 k1) none)) none))) none) none) none) (k1 v1)
theorem Ab3 (n l0 v1 n2 n3):F0 0 ((Mv lf).keep 6) (bd (Mv lf) cl yh (cd [1,0,1,1,1,1,0,1,0,0] A78)) n ⟨gp [(4,.s (.sl false false 1 l0)),(0,pI v1),(10,.s (.sl false false 1 l0)),(0,pI n2),(0,pI n3)] 38,[],s⟩ k =
 Et lf n l0 v1 n2 n3 (λ_=>k .ret ⟨gp [(2,p32 (0:Int)),(0,pB false)] 53,[],s⟩) (λv0=>k (.exit 0) ⟨gp [(5,pI v0)] 51,[],s⟩):=by
 induction n generalizing l0 v1 n2 n3 with
 | zero=>rfl
 | succ n ih=>rw [Et];simp only [<-ih];kernel_rfl
noncomputable def B03 {R:Type} (lf:Nat) (s0:By) (k0:Int->Bool->Option R):Option R:=cond (A2 s0.length) (cond (ltI 4 (↑(List.length (C5 (D1 s0))):Int)) (k0 0 false) (Et lf lf (C5 (D1 s0)) 0 (↑(List.length (C5 (D1 s0))):Int) 0 (λ_=>k0 0 false) (λv'12=>k0 (Bm2 v'12) true))) none
theorem B04 (d:Nat) (s0):evC (Mv lf) (d+1) σ yh 78 [pS s0] [] s=B03 lf s0 (λr0 r1=>some (.tup [p32 r0,pB r1],[],s)):=by
 refine (evE (fn:=Tryz.f78) (by kernel_rfl)).trans ?_
 generalize evC (Mv lf) d=cl
 unfold B03;exact (Eq.trans (by kernel_rfl) (A0 (A0 rfl ((Ab3 lf cl yh s (H7 0 (I5 (Mv lf) cl yh (cd [1,0,1,1,1,1,1] A78) (G5 (Mv lf) Tryz.f78))) lf (C5 (D1 s0)) 0 (↑(List.length (C5 (D1 s0))):Int) 0).trans (by kernel_rfl))) rfl))
noncomputable abbrev B87:Code:=D0 Tryz.f139
noncomputable def Zm (lf:Nat):Cfg:=B8 lf [139] (A3 [(6,[2,0,1,9,0,0])]) [(79,Ny),(91,GR),(59,UO)] (A3 [(13,[2,0]),(12,[5,9,0,0]),(11,[5,9,0,0]),(10,[2,0]),(9,[5,2,6,0,0,19]),(8,[5,1,0,0,5,0,0]),(7,[5,1,7,0,0]),(6,[5,9,0,0,0]),(5,[5,9,0,0]),(4,[4,0]),(3,[2,0]),(2,[4,9]),(1,[4]),(0,[0])]) [91,59] (A3 [(0,[5]),(1,[5,9,0,0])]) (some [2,0]) [] [] []
noncomputable def Nr {R:Type} (lf n:Nat) (v0:Int) (l1:LL) (n2 n3:Int) (k0:Unit->Option R) (k1:Int->Option R):Option R:=match n with | 0=>none | n+1=>cond (ltI n3 n2) (cond (inR n3 l1.length) (cond (okE Qq l1 (Int.toNat n3) 0) (cond (A2 (List.length (gX l1 (Int.toNat n3) 0))) (cond (ltN 10 17) (vl (↑(Az (G6 10 0 (gX l1 (Int.toNat n3) 0))):Int) λn'3=>cond (not (Option.isSome (G6 10 0 (gX l1 (Int.toNat n3) 0)))) (k0 ()) (cond (ltI 255 n'3) (k0 ()) (cond (ltN n'3 4294967296) (vl (Lib.decDigits (Int.toNat n'3)) λs'4=>cond (not (s'4==(gX l1 (Int.toNat n3) 0))) (k0 ()) (vl (bOr .u32 (Qf .u32 v0 (8:Int)) (Bm2 n'3)) λn'5=>Nr lf n n'5 l1 n2 (A4 (n3+1)) k0 k1)) none))) none) none) none) none) (k1 v0)
theorem A35 (n v0 l1 n2 n3):F0 0 ((Zm lf).keep 6) (bd (Zm lf) cl yh (cd [1,1,1,1,0,1,0,0] B87)) n ⟨gp [(5,p32 v0),(9,.s (.sl false false 1 l1)),(0,pI n2),(0,pI n3)] 27,[],s⟩ k =
 Nr lf n v0 l1 n2 n3 (λ_=>k .ret ⟨gp [(2,p32 (0:Int)),(0,pB false)] 41,[],s⟩) (λv0=>k (.exit 0) ⟨gp [(5,p32 v0)] 39,[],s⟩):=by
 induction n generalizing v0 l1 n2 n3 with
 | zero=>rfl
 | succ n ih=>rw [Nr];simp only [<-ih];kernel_rfl
noncomputable def v4p {R:Type} (lf:Nat) (s0:By) (k0:Int->Bool->Option R):Option R:=cond (A2 s0.length) (cond (1==1) (vl (C5 (pcs (List.getD ([46]:List UInt8) 0 0) s0)) λl'1=>cond ((l'1.length:Int) != 4) (k0 0 false) (Nr lf lf 0 l'1 (l'1.length:Int) 0 (λ_=>k0 0 false) (λv'6=>k0 v'6 true))) none) none
theorem Cf6 (d:Nat) (s0):evC (Zm lf) (d+1) σ yh 139 [pS s0] [] s=v4p lf s0 (λr0 r1=>some (.tup [p32 r0,pB r1],[],s)):=by
 refine (evE (fn:=Tryz.f139) (by kernel_rfl)).trans ?_
 generalize evC (Zm lf) d=cl
 unfold v4p;exact (Eq.trans (by kernel_rfl) (A0 (A0 (A5 λl'1=>(A0 rfl ((A35 lf cl yh s (H7 0 (I5 (Zm lf) cl yh (cd [1,1,1,1,1] B87) (G5 (Zm lf) Tryz.f139))) lf 0 l'1 (l'1.length:Int) 0).trans (by kernel_rfl)))) rfl) rfl))
noncomputable abbrev B86:Code:=D0 Tryz.f83
noncomputable def Zl (lf:Nat):Cfg:=B8 lf [83] (A3 [(3,[0,1,0,0])]) [(59,UO)] (A3 [(6,[2]),(4,[0,2,0]),(5,[0,2,0]),(3,[0,2,0,1]),(2,[0,2,0]),(1,[0,2]),(0,[0])]) [59] (A3 [(0,[3]),(1,[0,2,0])]) (some [2]) [] [] []
noncomputable def Dz {R:Type} (lf n:Nat) (v0:Int) (out1:By) (i2:Int) (k0:By->Option R):Option R:=match n with | 0=>none | n+1=>cond (not (ltI i2 0)) (cond (decide ((0:Int)<=i2)) (vl (VO .u32 (DI .u32 v0 i2) (255:Int)) λn'0=>cond (ltN (A4 n'0) 4294967296) (vl (Lib.decDigits (Int.toNat (A4 n'0))) λs'1=>cond (N0 s'1.length 1) (vl (s'1++[46]) λs'2=>cond (N0 out1.length s'2.length) (Dz lf n v0 (out1++s'2) (A4 (i2-8)) k0) none) none) none) none) (k0 out1)
theorem A34 (n v0 out1 i2):F0 0 ((Zl lf).keep 3) (bd (Zl lf) cl yh (cd [1,1,0,1,0,0] B86)) n ⟨gp [(0,p32 v0),(2,pS out1),(0,pI i2)] 18,[],s⟩ k =
 Dz lf n v0 out1 i2 (λout0=>k (.exit 0) ⟨gp [(3,pS out0)] 19,[],s⟩):=by
 induction n generalizing v0 out1 i2 with
 | zero=>rfl
 | succ n ih=>rw [Dz];simp only [<-ih];kernel_rfl
noncomputable def v4f {R:Type} (lf:Nat) (v0:Int) (k0:By->Option R):Option R:=Dz lf lf v0 ([]:List UInt8) 24 (λout'3=>vl (A4 ((out'3.length:Int)-1)) λn'4=>cond (L3 0 n'4 out'3.length) (vl (cut out'3 0 n'4) λs'5=>k0 s'5) none)
theorem Cf5 (d:Nat) (v0):evC (Zl lf) (d+1) σ yh 83 [p32 v0] [] s=v4f lf v0 (λr0=>some (pS r0,[],s)):=by
 refine (evE (fn:=Tryz.f83) (by kernel_rfl)).trans ?_
 generalize evC (Zl lf) d=cl
 unfold v4f;exact (Eq.trans (by kernel_rfl) ((A34 lf cl yh s (H7 0 (I5 (Zl lf) cl yh (cd [1,1,1] B86) (G5 (Zl lf) Tryz.f83))) lf v0 ([]:List UInt8) 24).trans (by kernel_rfl)))
noncomputable def Sk (lf:Nat):Cfg:=B8 lf [79] (A3 []) [(103,Re)] (A3 [(1,[4]),(0,[0,0])]) [] (A3 []) (some [4]) [] [] []
noncomputable def Xd {R:Type} (lf:Nat) (s0 sep1:By) (k0:Nat->LL->Option R):Option R:=cond (A2 s0.length) (cond (sep1.length==1) (cond ((0:Int)==0) (cond (((-1):Int)==((-1):Int)) (vl (C5 (pcs (List.getD sep1 0 0) s0)) λl'0=>k0 (List.length (pcs (List.getD sep1 0 0) s0)) l'0) none) none) none) none
theorem Ae1 (d:Nat) (s0 sep1):evC (Sk lf) (d+1) σ yh 79 [pS s0,pS sep1] [] s=Xd lf s0 sep1 (λr_m0 l1=>some (.vw 0 0 r_m0,[.arr false 9 1 l1],s)):=by
 refine (evE (fn:=Tryz.f79) (by kernel_rfl)).trans ?_
 generalize evC (Sk lf) d=cl
 unfold Xd;kernel_rfl
end
end
section
open Go
theorem Sq (b:UInt8):(48<=b.toNat/\b.toNat<=57/\dig b=b.toNat-48)\/(97<=b.toNat/\b.toNat<=102/\dig b=b.toNat-87)\/(65<=b.toNat/\b.toNat<=70/\dig b=b.toNat-55)\/(¬(48<=b.toNat/\b.toNat<=57)/\¬(97<=b.toNat/\b.toNat<=102)/\¬(65<=b.toNat/\b.toNat<=70)/\dig b=99):=by
 unfold dig
 split
 ·rename_i h;exact .inl ⟨h.1,h.2,rfl⟩
 ·split
  ·rename_i h;exact .inr (.inl ⟨h.1,h.2,rfl⟩)
  ·split
   ·rename_i h;exact .inr (.inr (.inl ⟨h.1,h.2,rfl⟩))
   ·exact .inr (.inr (.inr ⟨by assumption,by assumption,by assumption,rfl⟩))
theorem Ce3 (m:Nat):(if (1099511627776:Int)<(m:Int) then (1099511627776:Int) else (m:Int))=((min m Gg:Nat):Int):=by
 unfold Gg
 split<;>omega
theorem Zx {base:Nat}:∀ {s:By} {n v:Nat},n<=Gg->G6 base n s=some v->v<=Gg
 | [],n,v,h,e=>by simp only [G6,Option.some.injEq] at e;omega
 | b::r,n,v,h,e=>by
  simp only [G6] at e
  split at e
  ·exact Zx (by omega) e
  ·cases e
theorem Bz0 {s:By} {v:Nat} (h:Lq s=some v):v<=Gg:=by
 unfold Lq at h
 repeat' split at h
 all_goals first | (cases h;done) | exact Zx (by unfold Gg;omega) h
theorem EM (base:Nat):∀ (x y:By) (n:Nat),G6 base n (x++y)=(G6 base n x).bind λm=>G6 base m y
 | [],y,n=>rfl
 | b::r,y,n=>by
  simp only [List.cons_append,G6]
  split
  ·exact EM base r y _
  ·rfl
theorem Lw (u:Nat) (h:¬ u<10):Lib.decDigits u=Lib.decDigits (u / 10)++[UInt8.ofNat (48+u % 10)]:=by
 rw [Lib.decDigits,dif_neg h]
theorem B90 (d:Nat) (h:d<10):dig (UInt8.ofNat (48+d))=d:=by
 unfold dig
 have:(UInt8.ofNat (48+d)).toNat=48+d:=by simp;omega
 rw [this,Bj]
 omega
theorem Ar7:∀ u:Nat,u<=Gg->G6 10 0 (Lib.decDigits u)=some u:=by
 intro u
 induction u using Nat.strongRecOn with
 | _ u ih=>
  intro hu
  by_cases h:u<10
  ·rw [Lib.decDigits_one h]
   simp only [G6,B90 u h]
   rw [if_pos h]
   unfold Gg
   simp
   omega
  ·rw [Lw u h,EM,ih (u / 10) (by omega) (by omega)]
   simp only [Option.bind_some,G6,B90 (u % 10) (by omega)]
   rw [Bj]
   unfold Gg at *
   simp
   omega
theorem Ky:∀ (k u:Nat),0<k->u<10 ^ k->(Lib.decDigits u).length<=k
 | 0,u,h,_=>by omega
 | k+1,u,_,h=>by
  by_cases h1:u<10
  ·rw [Lib.decDigits_one h1];simp
  ·rw [Lw u h1,List.length_append,List.length_singleton]
   have hk:0<k:=by
    rcases Nat.eq_zero_or_pos k with rfl | hk
    ·rw [Nat.zero_add,Nat.pow_one] at h;omega
    ·exact hk
   have:=Ky k (u / 10) hk (by rw [Nat.pow_succ] at h;omega)
   omega
theorem F4 (u:Nat) (h:u<4294967296):(Lib.decDigits u).length<=10:=Ky 10 u (by omega) (by omega)
theorem Bz1 {s:By} {n:Nat}:oct s=some n↔n<256/\Lib.decDigits n=s:=by
 unfold oct
 constructor
 ·intro h
  split at h
  ·rename_i m hm
   split at h
   ·rename_i hc
    cases h
    exact ⟨by omega,hc.2⟩
   ·cases h
  ·cases h
 ·rintro ⟨h1,rfl⟩
  rw [Ar7 n (by unfold Gg;omega)]
  exact if_pos ⟨by omega,rfl⟩
theorem B85 (a b:Nat) (ha:a<9223372036854775808) (hb:b<9223372036854775808):bOr .i64 (a:Int) (b:Int)=((a ||| b:Nat):Int):=by
 unfold bOr
 rw [show IntKind.bits .i64=64 from rfl,Ca9 64 a b (by omega) (by omega)]
 have:a ||| b<2 ^ 63:=Nat.or_lt_two_pow (by omega) (by omega)
 exact A8
theorem Ck7 (a b:Nat) (ha:a<4294967296) (hb:b<4294967296):bOr .u32 (a:Int) (b:Int)=((a ||| b:Nat):Int):=by
 unfold bOr
 rw [show IntKind.bits .u32=32 from rfl,Ca9 32 a b (by omega) (by omega)]
 have:a ||| b<2 ^ 32:=Nat.or_lt_two_pow (by omega) (by omega)
 exact CS
theorem Ca3 (a b:Nat) (ha:a<4294967296) (hb:b<4294967296):VO .u32 (a:Int) (b:Int)=((a &&& b:Nat):Int):=by
 unfold VO
 rw [show IntKind.bits .u32=32 from rfl,B89 32 a b (by omega) (by omega)]
 have:a &&& b<2 ^ 32:=Nat.and_lt_two_pow _ (by omega)
 exact CS
theorem Ca2 (x:Nat):x &&& 255=x % 256:=Nat.and_two_pow_sub_one_eq_mod x 8
theorem Bi1 (a m:Nat) (h:a*2 ^ m<9223372036854775808) (hm:m<=64):Qf .i64 (a:Int) (m:Int)=((a*2 ^ m:Nat):Int):=by
 unfold Qf
 rw [Int.toNat_natCast,show IntKind.bits .i64=64 from rfl,Nat.min_eq_left hm]
 have:(a:Int)*2 ^ m=((a*2 ^ m:Nat):Int):=by simp
 rw [this]
 exact A8
theorem Cm3 (a m:Nat) (h:a*2 ^ m<4294967296) (hm:m<=32):Qf .u32 (a:Int) (m:Int)=((a*2 ^ m:Nat):Int):=by
 unfold Qf
 rw [Int.toNat_natCast,show IntKind.bits .u32=32 from rfl,Nat.min_eq_left hm]
 have:(a:Int)*2 ^ m=((a*2 ^ m:Nat):Int):=by simp
 rw [this]
 exact CS
theorem Wx (v n m:Nat) (h:n<2 ^ m):v*2 ^ m ||| n=v*2 ^ m+n:=by
 rw [Nat.or_comm,Cd6 n v m h,Nat.add_comm]
theorem Jy {c:UInt8} {s:By} (h:c∉s):pcs c s=[s]:=by
 unfold pcs;rw [Ql c s [] h];rfl
theorem Wy {c:UInt8} {p r:By} (h:c∉p):pcs c (p++c::r)=p::pcs c r:=by
 unfold pcs;rw [Vp c p [] r h];rfl
theorem Hk (c:UInt8) (s:By):(pcs c s).length=s.count c+1:=Ew c s []
theorem MB (c:UInt8) (s:By):pcs c s≠[]:=Ad4 c s []
theorem Ep {c:UInt8} {s x:By} (h:x∈pcs c s):c∉x/\x.length<=s.length:=by
 have:=Kd c s [] (by simp) x h
 simpa using this
theorem Je (c:UInt8) (s:By):s.count c<=s.length:=List.count_le_length
theorem R6 (c:UInt8):∀ s:By,c∉s\/∃ p r,s=p++c::r/\c∉p
 | []=>.inl (by simp)
 | b::s=>by
  by_cases h:b=c
  ·subst h;exact .inr ⟨[],s,rfl,by simp⟩
  ·rcases R6 c s with h1 | ⟨p,r,rfl,h2⟩
   ·exact .inl (by simp [h1,Ne.symm h])
   ·exact .inr ⟨b::p,r,rfl,by simp [h2,Ne.symm h]⟩
theorem Hd {c:UInt8} {s:By} (h:c∉s):Lib.index s [c] = -1:=by
 rcases Lib.index_spec s [c] with h1 | ⟨i,h1,h2,h3,h4⟩
 ·exact h1.1
 ·exfalso
  simp only [Lib.occAt,List.isPrefixOf_iff_prefix] at h3
  obtain ⟨t,ht⟩:=h3
  have:c∈s.drop i:=by rw [<-ht];simp
  exact h (List.mem_of_mem_drop this)
theorem Ld {c:UInt8} {p r:By} (h:c∉p):Lib.index (p++c::r) [c]=(p.length:Int):=by
 rcases Lib.index_spec (p++c::r) [c] with h1 | ⟨i,h1,h2,h3,h4⟩
 ·exfalso
  have:=h1.2 p.length (by simp)
  simp [Lib.occAt] at this
 ·rw [h1]
  have hi:¬ p.length<i:=by
   intro hlt
   have:=h4 p.length hlt
   simp [Lib.occAt] at this
  have hi2:¬ i<p.length:=by
   intro hlt
   simp only [Lib.occAt,List.isPrefixOf_iff_prefix] at h3
   obtain ⟨t,ht⟩:=h3
   have h5:(p++c::r).drop i=p.drop i++c::r:=by rw [List.drop_append_of_le_length (by omega)]
   rw [h5] at ht
   cases hd:p.drop i with
   | nil=>have:=List.length_drop (i:=i) (l:=p);rw [hd] at this;simp at this;omega
   | cons x y=>
    rw [hd] at ht
    simp at ht
    have:x∈p:=List.mem_of_mem_drop (i:=i) (by rw [hd];simp)
    rw [<-ht.1] at this
    exact h this
  omega
theorem Ay7 (s:By):D1 s≠[]:=by
 unfold D1
 split
 ·rename_i h
  intro e
  have:=congrArg List.length e
  simp at this
  omega
 ·exact MB _ _
theorem BM {s x:By} (h:x∈D1 s):x.length<=s.length:=by
 unfold D1 at h
 split at h
 ·exact (Ep ((List.dropLast_sublist _).subset h)).2
 ·exact (Ep h).2
theorem Dp (s:By):1<=(D1 s).length/\(D1 s).length<=s.length+1:=by
 have h1:=List.length_pos_iff.2 (Ay7 s)
 have h2:=Hk 46 s
 have h3:=Je 46 s
 refine ⟨h1,?_⟩
 unfold D1
 split
 ·rw [List.length_dropLast];omega
 ·omega
theorem FG (s:By):(D1 s).getD ((D1 s).length-1) []=Dk s:=by
 unfold Dk
 rw [List.getLastD_eq_getLast?,List.getLast?_eq_getElem?,List.getD_eq_getElem?_getD]
theorem Aw0 (s:By):Dk s∈D1 s:=by
 have h:=(Dp s).1
 rw [<-FG,List.getD_eq_getElem?_getD,List.getElem?_eq_getElem (by omega)]
 exact List.getElem_mem _
theorem Av1 (s:By):El s=true↔s.getD 0 0=48/\(s.getD 1 0=120\/s.getD 1 0=88):=by
 simp [El]
theorem FC {s:By} (h:El s=true):2<=s.length:=by
 rw [Av1] at h
 match s with
 | []=>simp at h
 | [a]=>simp at h
 | a::b::r=>simp
end
section
open Go Go.Proofs
theorem Aw7 {R:Type} {k0:Bool->Option R} (s p:By) (h0:A2 s.length=true):Bx5 LF s p k0=k0 (p.isPrefixOf s):=by
 have:=N5 h0
 unfold Bx5
 rw [Bg]
 by_cases h:p.length<=s.length
 ·simp_all
 ·simp (disch:=omega) [h]
theorem Au2 {R:Type} {k0:Bool->Option R} (s p:By) (h0:A2 s.length=true):Wb LF s p k0=k0 (p.isPrefixOf s):=by
 unfold Wb;rw [h0];rfl
theorem Ax1 {R:Type} {k0:Bool->Option R} (s p:By) (h0:A2 s.length=true):Bx8 LF s p k0=k0 (p.isSuffixOf s):=by
 have:=N5 h0
 unfold Bx8
 rw [Hz]
 by_cases h:p.length<=s.length
 ·have e:((s.length:Int)-(p.length:Int)).toNat=s.length-p.length:=by omega
  simp (disch:=omega) [h,e]
 ·simp (disch:=omega) [h]
theorem Au3 {R:Type} {k0:Bool->Option R} (s p:By) (h0:A2 s.length=true):Bv7 LF s p k0=k0 (p.isSuffixOf s):=by
 unfold Bv7;rw [h0];rfl
theorem ZJ {R:Type} {k0:By->Option R} (s p:By) (h0:A2 s.length=true):Am6 LF s p k0=k0 (MY s p):=by
 have:=N5 h0
 unfold Am6 MY
 rw [h0]
 cases h:p.isSuffixOf s with
 | false=>simp
 | true=>
  have:p.length<=s.length:=by rw [Hz] at h;simp at h;exact h.1
  have e:((s.length:Int)-(p.length:Int)).toNat=s.length-p.length:=by omega
  simp (disch:=omega) [e]
theorem Ae9 {R:Type} {k0:By->Option R} (s p:By) (h0:A2 s.length=true):Ao7 LF s p k0=k0 (MY s p):=by
 unfold Ao7;rw [h0];rfl
theorem YV {R:Type} {k0:By->Bool->Option R} (s p:By) (h0:A2 s.length=true):Al9 LF s p k0=k0 (Dd s p) (p.isPrefixOf s):=by
 have:=N5 h0
 unfold Al9 Dd
 rw [h0]
 cases h:p.isPrefixOf s with
 | false=>simp
 | true=>
  have:p.length<=s.length:=by rw [Bg] at h;simp at h;exact h.1
  simp_all
theorem Ar2 {R:Type} {k0:By->Bool->Option R} (s p:By) (h0:A2 s.length=true):Br5 LF s p k0=k0 (Dd s p) (p.isPrefixOf s):=by
 unfold Br5;rw [h0];rfl
theorem TH {R:Type} {k0:LL->Option R} (s p:By) (h0:A2 s.length=true) (h1:(p.length==1)=true):MT LF s p k0=k0 (C5 (pcs (p.getD 0 0) s)):=by
 unfold MT;rw [h0,h1];rfl
theorem Aw4 {R:Type} {k0:LL->Option R} (s:By) (hs:s.length<=1000000000):∀ (r i n:Nat),i+r=s.length->r<n->Bw LF n s (s.length:Int) (i:Int) ((C0 (s.take i)).map G0) k0=k0 ((C0 s).map G0):=by
 intro r
 induction r with
 | zero=>
  intro i n hi hn
  obtain ⟨n,rfl⟩:∃ m,n=m+1:=⟨n-1,by omega⟩
  rw [Bw]
  rw [A6,List.take_of_length_le (by omega)]
  rfl
 | succ r ih=>
  intro i n hi hn
  obtain ⟨n,rfl⟩:∃ m,n=m+1:=⟨n-1,by omega⟩
  rw [Bw]
  have hl:(C0 (s.take i)).length=i:=by simp [C0];omega
  have ih:=ih (i+1) n (by omega) (by omega)
  rw [ZD s i (by omega)] at ih
  rw [K6]
  have hb:=(s.getD i 0).toNat_lt
  generalize s.getD i 0=b at *
  have hn1:((i:Int)+1)=((i+1:Nat):Int):=by omega
  simp (disch:=omega) only [D8,O6,cond_true,vl,List.length_map,hl,I9,M4]
  rw [hn1]
  rcases P2 b with ⟨h1,e⟩ | ⟨h1,e⟩ | ⟨h1,h2,e⟩
  ·simp (disch:=omega) only [D8,Bool.not_true,cond_false]
   rw [e] at ih;exact ih
  ·simp (disch:=omega) only [I3,D8,Bool.not_true,Bool.not_false,cond_false,cond_true]
   rw [e] at ih;exact ih
  ·have e2:wu8 ((b.toNat:Int)+32)=((X1 b).toNat:Int):=by
    rw [W8];omega
   simp (disch:=omega) only [I3,Bool.not_false,cond_true,e2]
   exact ih
theorem Aw5 {R:Type} {k0:By->LL->Option R} (s:By) (h0:A2 s.length=true):Bx3 LF s k0=k0 (C0 s) ((C0 s).map G0):=by
 have hs:=N5 h0
 have:=F6
 unfold Bx3
 simp (disch:=omega) only [Int.toNat_natCast,I9,Bool.and_true]
 rw [show (decide ((0:Int)<=(s.length:Int)))=true by simp]
 have:=Aw4 (k0:=λl'1=>cond (List.all l'1 AQ) (k0 (List.map Vx l'1) l'1) none) s hs s.length 0 LF (by omega) (by omega)
 simp only [List.take_zero,C0,List.map_nil] at this
 rw [cond_true]
 refine Eq.trans this ?_
 rw [show (List.map X1 s).map G0=(C0 s).map G0 from rfl,Iv,Jr]
 rfl
theorem At8 {R:Type} {k0:Bool->Option R} (s:By) (h0:A2 s.length=true):Bu8 LF s k0=k0 (El s):=by
 unfold Bu8
 have key:El s=(([48,120]:By).isPrefixOf s || ([48,88]:By).isPrefixOf s):=by
  match s with
  | []=>rfl
  | [a]=>simp [El,List.isPrefixOf]
  | a::b::r=>
   simp only [El,List.isPrefixOf,List.getD_cons_zero,List.getD_cons_succ,Bool.and_true]
   rw [BEq.comm (a:=(48:UInt8)),BEq.comm (a:=(120:UInt8)),BEq.comm (a:=(88:UInt8))]
   cases (a==48)<;>simp
 grind
theorem Ar8 {R:Type} {k0:Unit->Option R} {k1:Int->Option R} (s:By) (hs:s.length<=1000000000) (base:Nat) (hb:base<=16):∀ (r i acc n:Nat),i+r=s.length->r<n->acc<=Gg->
  Eg LF n s (base:Int) (acc:Int) (s.length:Int) (i:Int) k0 k1=match G6 base acc (s.drop i) with | some v=>k1 (v:Int) | none=>k0 ():=by
 intro r
 induction r with
 | zero=>
  intro i acc n hi hn ha
  obtain ⟨n,rfl⟩:∃ m,n=m+1:=⟨n-1,by omega⟩
  rw [Eg]
  rw [A6,List.drop_of_length_le (by omega)]
  rfl
 | succ r ih=>
  intro i acc n hi hn ha
  obtain ⟨n,rfl⟩:∃ m,n=m+1:=⟨n-1,by omega⟩
  rw [Eg,M8 s i (by omega)]
  rw [K6]
  have hbt:=(s.getD i 0).toNat_lt
  generalize s.getD i 0=b at *
  have hn1:((i:Int)+1)=((i+1:Nat):Int):=by omega
  have hsat:Gg=1099511627776:=rfl
  have step:∀ d:Nat,d<base->(acc*base+d<100000000000000/\A4 (A4 ((acc:Int)*(base:Int))+(d:Int))=((acc*base+d:Nat):Int)):=by
   intro d hd
   have h1:acc*base<=1099511627776*16:=Nat.mul_le_mul (by omega) (by omega)
   refine ⟨by omega,?_⟩
   have e1:A4 ((acc*base:Nat):Int)=((acc*base:Nat):Int):=A8
   rw [<-Int.natCast_mul,e1,A8]
   rfl
  simp (disch:=omega) only [D8,O6,cond_true,vl,M4,Ol,Ok,Oj]
  rw [hn1]
  simp only [G6]
  rcases Sq b with ⟨h1,h2,e⟩ | ⟨h1,h2,e⟩ | ⟨h1,h2,e⟩ | ⟨h1,h2,h3,e⟩
  ·have e2:wu8 ((b.toNat:Int)-48)=((dig b:Nat):Int):=by rw [W8];omega
   simp (disch:=omega) only [D8,I3,Bool.not_true,Bool.not_false,cond_false,cond_true,e2,M4]
   by_cases hd:dig b<base
   ·rw [if_pos hd,B4,(step _ hd).2,Ce3]
    exact ih (i+1) _ n (by omega) (by omega) (by omega)
   ·rw [if_neg hd,A6];rfl
  ·have e2:wu8 ((b.toNat:Int)-97)+10=((dig b:Nat):Int):=by rw [W8];omega
   have e3:wu8 ((b.toNat:Int)-97)=((b.toNat:Int)-97):=W8
   rw [e3] at e2
   simp (disch:=omega) only [D8,I3,Bool.not_true,Bool.not_false,cond_false,cond_true,e3,M4,e2]
   by_cases hd:dig b<base
   ·rw [if_pos hd,B4,(step _ hd).2,Ce3]
    exact ih (i+1) _ n (by omega) (by omega) (by omega)
   ·rw [if_neg hd,A6];rfl
  ·have e2:wu8 ((b.toNat:Int)-65)+10=((dig b:Nat):Int):=by rw [W8];omega
   have e3:wu8 ((b.toNat:Int)-65)=((b.toNat:Int)-65):=W8
   rw [e3] at e2
   simp (disch:=omega) only [D8,I3,Bool.not_true,Bool.not_false,cond_false,cond_true,e3,M4,e2]
   by_cases hd:dig b<base
   ·rw [if_pos hd,B4,(step _ hd).2,Ce3]
    exact ih (i+1) _ n (by omega) (by omega) (by omega)
   ·rw [if_neg hd,A6];rfl
  ·rw [if_neg (show ¬ dig b<base by omega)]
   by_cases c1:b.toNat<48
   ·simp (disch:=omega) only [D8,I3,Bool.not_true,Bool.not_false,cond_false,cond_true]
   ·by_cases c2:b.toNat<65
    ·simp (disch:=omega) only [D8,I3,Bool.not_true,Bool.not_false,cond_false,cond_true]
    ·by_cases c3:b.toNat<97
     ·simp (disch:=omega) only [D8,I3,Bool.not_true,Bool.not_false,cond_false,cond_true]
     ·simp (disch:=omega) only [D8,I3,Bool.not_true,Bool.not_false,cond_false,cond_true]
theorem Ar9 {R:Type} {k0:Int->Bool->Option R} (s:By) (base:Int) (h0:A2 s.length=true) (h1:ltN base 17=true):A97 LF s base k0=k0 (Az (G6 base.toNat 0 s):Int) (G6 base.toNat 0 s).isSome:=by
 have hs:=N5 h0
 have:=F6
 obtain ⟨hb0,hb1⟩:=D2.1 h1
 obtain ⟨bn,rfl⟩:=Int.eq_ofNat_of_zero_le hb0
 unfold A97
 have:=Ar8 (k0:=λ_=>k0 0 false) (k1:=λn=>k0 n true) s hs bn (by omega) s.length 0 0 LF (by omega) (by omega) (by unfold Gg;omega)
 refine Eq.trans this ?_
 rw [List.drop_zero,Int.toNat_natCast]
 cases G6 bn 0 s<;>rfl
theorem Bf8 {R:Type} {k0:Int->Bool->Option R} (s:By) (h0:A2 s.length=true):num LF s k0=k0 (Az (Lq s):Int) (Lq s).isSome:=by
 have hs:=N5 h0
 unfold num Lq
 rw [h0]
 by_cases h1:s=[]
 ·subst h1;rfl
 have h1':(s==([]:By))=false:=by simpa using h1
 have hl:0<s.length:=List.length_pos_iff.2 h1
 rw [if_neg h1,h1']
 simp only [cond_true,cond_false,vl]
 cases hx:El s with
 | true=>
  have:=FC hx
  simp (disch:=first | omega | (simp;omega)) only [cond_true,if_true,Hp,Aj,E2,Vb]
  rfl
 | false=>
  simp only [cond_false,Bool.false_eq_true,if_false]
  have hd:(G6 10 0 s)=G6 10 0 s:=rfl
  by_cases h2:1<s.length
  ·simp (disch:=omega) only [D8,O6,cond_true,Ob,h2,true_and]
   have e:=Np (s.getD 0 0) 48 (by omega)
   rw [show ((48:Nat):Int)=48 from rfl] at e
   rw [e]
   by_cases h3:s.getD 0 0=48
   ·rw [if_pos h3,h3,show ((48:UInt8)==UInt8.ofNat 48)=true from rfl]
    simp (disch:=first | omega | (simp;omega)) only [Hp,Aj,E2,Vb,cond_true]
    rfl
   ·rw [if_neg h3,show (s.getD 0 0==UInt8.ofNat 48)=false from beq_eq_false_iff_ne.2 h3]
    rfl
  ·rw [A6,P5]
   rfl
theorem LS {R:Type} {k0:Bool->Option R} (s:By) (h0:A2 s.length=true):Wv LF s k0=k0 (K5 s):=by
 have hs:=N5 h0
 have hp:=Dp s
 have hm:=BM (Aw0 s)
 have hg:=FG s
 have e1:((D1 s).length:Int)-1=(((D1 s).length-1:Nat):Int):=by omega
 unfold Wv K5
 rw [h0]
 simp (disch:=omega) only [cond_true,vl,E1,e1,M4,O6,Int.toNat_natCast,U2,Ak,hg,E2]
 cases hx:El (Dk s) with
 | true=>
  have:=FC hx
  have hn:Lq (Dk s)=G6 16 0 ((Dk s).drop 2):=by
   unfold Lq
   grind
  simp [hn]
 | false=>
  simp only [cond_false,Bool.false_eq_true,if_false]
  cases G6 10 0 (Dk s) with
  | none=>simp
  | some v=>cases Dk s<;>rfl
theorem Bi0 (d:List By) (x:By) (m:Nat):List.set (C5 (d++List.replicate (m+1) [])) d.length (E0 (List.getD (C5 (d++List.replicate (m+1) [])) d.length []) 0 [SV.str x])=C5 ((d++[x])++List.replicate m []):=by
 have hg:List.getD (C5 (d++List.replicate (m+1) [])) d.length []=[SV.str []]:=by
  unfold C5
  grind
 rw [hg]
 simp only [E0,List.set_cons_zero,TN]
 rw [show d.length=(C5 d).length by simp,List.set_append_right _ _ (by omega),Nat.sub_self,List.replicate_succ]
 simp [C5]
theorem QH {R:Type} {k0:By->Int->LL->Option R} (c:UInt8):∀ (m n:Nat) (s:By) (d:List By),s.length<=1000000000->m=s.count c->d.length+m<=1000000000->m<n->
  ∃ (d':List By) (s':By),pcs c s=d'++[s']/\s'.length<=s.length/\V9 LF n s [c] 0 ((d.length+m:Nat):Int) (d.length:Int) (C5 (d++List.replicate (m+1) [])) k0=k0 s' ((d.length+m:Nat):Int) (C5 ((d++d')++[[]])):=by
 intro m
 induction m with
 | zero=>
  intro n s d hs hm hd hn
  obtain ⟨n,rfl⟩:∃ m,n=m+1:=⟨n-1,by omega⟩
  have hc:c∉s:=List.count_eq_zero.1 hm.symm
  refine ⟨[],s,Jy hc,Nat.le_refl _,?_⟩
  rw [V9]
  rw [A6]
  simp
 | succ m ih=>
  intro n s d hs hm hd hn
  obtain ⟨n,rfl⟩:∃ m,n=m+1:=⟨n-1,by omega⟩
  rcases R6 c s with hc | ⟨p,r,rfl,hc⟩
  ·rw [List.count_eq_zero.2 hc] at hm;omega
  ·have hm':m=r.count c:=by
    rw [List.count_append,List.count_cons,List.count_eq_zero.2 hc] at hm
    simp at hm
    omega
   simp only [List.length_append,List.length_cons] at hs
   obtain ⟨d',s',h1,h2,h3⟩:=ih n r (d++[p]) (by omega) hm' (by simp<;>omega) (by omega)
   refine ⟨p::d',s',by rw [Wy hc,h1];rfl,by simp<;>omega,?_⟩
   rw [V9]
   have e1:((p.length:Int)+1)=((p.length+1:Nat):Int):=by omega
   have e2:(d.length:Int)+1=((d.length+1:Nat):Int):=by omega
   have e3:((p.length+1:Nat):Int).toNat=p.length+1:=by omega
   have e4:(((p++c::r).length:Nat):Int)=((p.length+(r.length+1):Nat):Int):=by simp
   have e5:(p++c::r).take p.length=p:=List.take_left' rfl
   have e6:(p++c::r).drop (p.length+1)=r:=by
    rw [show p++c::r=(p++[c])++r by simp,List.drop_left' (by simp)]
   rw [Ld hc]
   have el:(C5 (d++List.replicate (m+1+1) [])).length=d.length+(m+2):=by simp<;>omega
   simp (disch:=first | omega | (simp;omega)) only [D8,I3,E2,cond_true,cond_false,vl,Int.add_zero,M4,Hp,O6,el,Int.toNat_natCast,List.length_singleton,Aj,U1,e5,Bi0]
   rw [decide_eq_true (show d.length<d.length+(m+2) by omega),cond_true,show ((1:Nat):Int)=1 from rfl,e1]
   simp (disch:=first | omega | (simp;omega)) only [M4,Hp,cond_true,Aj,e3,e6,e2]
   have h3':((((d++[p]).length+m:Nat):Int))=((d.length+(m+1):Nat):Int):=by simp<;>omega
   have h4':(((d++[p]).length:Nat):Int)=((d.length+1:Nat):Int):=by simp
   rw [h3',h4'] at h3
   rw [h3]
   simp
theorem AK {R:Type} {k0:Unit->Option R} {k1:Nat->LL->Option R} (s p:By) (v n:Int) (h0:A2 s.length=true) (h1:(p.length==1)=true) (h2:(v==0)=true) (h3:(n==(-1))=true) :
  AJ LF s p v n k0 k1=k1 (pcs (p.getD 0 0) s).length (C5 (pcs (p.getD 0 0) s)):=by
 have hs:=N5 h0
 have:=F6
 obtain ⟨c,rfl⟩:∃ c,p=[c]:=by
  match p,h1 with
  | [c],_=>exact ⟨c,rfl⟩
 have:v=0:=by simpa using h2
 subst this
 have:n = -1:=by simpa using h3
 subst this
 have hc:=Je c s
 have hpl:=Hk c s
 obtain ⟨d',s',g1,g2,g3⟩:=QH (R:=R) (k0:=λs'14 i'15 l'16=>cond (inR i'15 (List.length l'16))
     (cond (decide ((Int.toNat i'15)<(List.length l'16)))
      (vl (A4 (i'15+(1))) λn'17=>
      cond (L3 (0) n'17 (List.length (List.set l'16 (Int.toNat i'15) (E0 (List.getD l'16 (Int.toNat i'15) []) 0 [(SV.str s'14)]))))
       (k1 ((Int.toNat n'17)-0) (List.set l'16 (Int.toNat i'15) (E0 (List.getD l'16 (Int.toNat i'15) []) 0 [(SV.str s'14)])))
       (none))
      (none))
     (none)) c (s.count c) LF s [] hs rfl (by simp<;>omega) (by omega)
 unfold AJ
 have e1:A4 ((s.count c:Int)+1)=((s.count c+1:Nat):Int):=A8
 have e2:A4 ((s.length:Int)+1)=((s.length+1:Nat):Int):=A8
 have e3:(if ((s.length+1:Nat):Int)<((s.count c+1:Nat):Int) then ((s.length+1:Nat):Int) else ((s.count c+1:Nat):Int))=((s.count c+1:Nat):Int):=P5
 have e4:((s.count c+1:Nat):Int)-1=(s.count c:Int):=by omega
 have e5:(List.replicate (s.count c+1) [SV.str ([]:By)])=C5 ([]++List.replicate (s.count c+1) []):=by simp [C5]
 simp only [List.getD_cons_zero,vl,List.length_singleton,e1,e2,e3,Int.toNat_natCast,e5]
 rw [show ((-1:Int)==0)=false from rfl,show ([c]==([]:By))=false from rfl,show ltI (-1) 0=true from rfl,decide_eq_true (show (0:Int)<=((s.count c+1:Nat):Int) by omega),decide_eq_true (show ((s.count c+1:Nat):Int)<=((s.count c+1:Nat):Int) by omega),I9 (by omega),e4,A8]
 simp only [cond_true,cond_false,beq_self_eq_true,Bool.and_self]
 simp only [List.length_nil,Nat.zero_add] at g3
 refine Eq.trans g3 ?_
 have e6:(C5 ((([]:List By)++d')++[[]]))=C5 (d'++List.replicate (0+1) []):=by simp
 have hd:d'.length=s.count c:=by grind
 have e7:=Bi0 d' s' 0
 rw [<-hd,e6]
 have el:(C5 (d'++List.replicate (0+1) ([]:By))).length=d'.length+1:=by simp
 have e8:A4 ((d'.length:Int)+1)=((d'.length+1:Nat):Int):=A8
 simp only [Int.toNat_natCast,e7,el,vl,e8]
 rw [J2,decide_eq_true (show d'.length<d'.length+1 by omega),Hp (by omega) (by omega) (by simp),g1]
 simp
theorem QI (s p:By) (v n:Int) (h0:A2 s.length=true) (h1:(p.length==1)=true) (h2:(v==0)=true) (h3:(n==(-1))=true) :
  ∃ r H,AJ LF s p v n (λ_=>rv (.fl 0) [.arr true 9 1 []]) (λi l=>rv (.vw 0 0 i) [.arr false 9 1 l])=rv r H/\r.stab [1] H = .s (.sl false false 1 (C5 (pcs (p.getD 0 0) s))):=by
 refine ⟨_,_,AK s p v n h0 h1 h2 h3,?_⟩
 simp [PV.stab,Vy,PV.snap,List.take_of_length_le]
theorem MU {R:Type} {k0:Nat->LL->Option R} (s p:By) (h0:A2 s.length=true) (h1:(p.length==1)=true):Xd LF s p k0=k0 (pcs (p.getD 0 0) s).length (C5 (pcs (p.getD 0 0) s)):=by
 unfold Xd;rw [h0,h1];rfl
theorem Bf9 {l:List By} {i:Nat} (h:i<l.length):l.getD i []∈l:=by grind
theorem ZY {R:Type} {k0:LL->Option R} (s:By) (h0:A2 s.length=true):parts LF s k0=k0 (C5 (D1 s)):=by
 have hs:=N5 h0
 have hpl:=Hk 46 s
 have hc:=Je 46 s
 unfold parts
 rw [h0]
 have e1:A4 (((pcs 46 s).length:Int)-1)=(((pcs 46 s).length-1:Nat):Int):=by rw [A8];omega
 simp only [cond_true,vl,List.getD_cons_zero,show ((1:Nat)==1)=true from rfl,E1,e1,Int.toNat_natCast]
 by_cases h1:1<(pcs 46 s).length
 ·rw [B4,J2,U2 (by omega),Ak]
  have hg:(pcs 46 s).getD ((pcs 46 s).length-1) []=(pcs 46 s).getLastD []:=by grind
  rw [hg]
  by_cases h2:(pcs 46 s).getLastD []=[]
  ·rw [h2,show (([]:By)==[])=true from rfl,M7]
   have:D1 s=(pcs 46 s).dropLast:=by unfold D1;rw [if_pos ⟨h1,h2⟩]
   rw [this,List.dropLast_eq_take,U1,Int.toNat_natCast]
   simp [C5]
  ·rw [show ((pcs 46 s).getLastD []==[])=false from beq_eq_false_iff_ne.2 h2]
   have:D1 s=pcs 46 s:=by unfold D1;rw [if_neg (λh=>h2 h.2)]
   grind
 ·rw [A6]
  have:D1 s=pcs 46 s:=by unfold D1;rw [if_neg (λh=>h1 h.1)]
  grind
theorem BS (l:List By) (i:Nat) (h:i<l.length):l.drop i=l.getD i []::l.drop (i+1):=by simp_all
theorem Az3 {R:Type} {k0:Unit->Option R} {k1:Int->Option R} (l:List By) (hm1:1<=l.length) (hm:l.length<=4) (hl:∀ x∈l,x.length<=1000000000):∀ (r i v n:Nat),i+r=l.length->0<r->r<n->v<256 ^ i->
  Et LF n (C5 l) (v:Int) (l.length:Int) (i:Int) k0 k1=match BQ (8*(5-l.length)) v (l.drop i) with | some w=>k1 (w:Int) | none=>k0 ():=by
 intro r
 induction r with
 | zero=>intro i v n _ h;omega
 | succ r ih=>
  intro i v n hi _ hn hv
  obtain ⟨n,rfl⟩:∃ m,n=m+1:=⟨n-1,by omega⟩
  rw [Et,BS l i (by omega)]
  have hx:=hl _ (Bf9 (show i<l.length by omega))
  have hsat:Gg=1099511627776:=rfl
  have hpw:256 ^ i<=16777216:=by
   have:i=0\/i=1\/i=2\/i=3:=by omega
   rcases this with rfl | rfl | rfl | rfl<;>decide
  simp (disch:=omega) only [D8,E1,O6,cond_true,Int.toNat_natCast,U2,Ak,E2,vl]
  simp only [BQ]
  have hn1:((i:Int)+1)=((i+1:Nat):Int):=by omega
  cases hq:Lq (l.getD i []) with
  | none=>rfl
  | some q=>
   have hql:=Bz0 hq
   have ep:A4 ((l.length:Int)-1)=((l.length-1:Nat):Int):=by rw [A8];omega
   simp only [Option.isSome_some,Bool.not_true,cond_false,Az,Option.getD_some,ep]
   by_cases hr:r=0
   ·subst hr
    have hd:l.drop (i+1)=[]:=List.drop_of_length_le (by omega)
    have ef:A4 (8*A4 (5-(l.length:Int)))=((8*(5-l.length):Nat):Int):=by
     rw [M4 (n:=5-(l.length:Int)) (by omega) (by omega),A8];omega
    have hfp:2 ^ (8*(5-l.length))*256 ^ i=4294967296:=by
     have:l.length=1\/l.length=2\/l.length=3\/l.length=4:=by omega
     grind
    have hf1:1*2 ^ (8*(5-l.length))<=4294967296:=by
     rw [<-hfp,Nat.one_mul]
     exact Nat.le_mul_of_pos_right _ (Nat.pow_pos (by omega))
    rw [hd,A6,ef,decide_eq_true (show (0:Int)<=((8*(5-l.length):Nat):Int) by omega)]
    simp only [cond_false,cond_true]
    have s1:=Bi1 1 (8*(5-l.length)) (by omega) (by omega)
    have hvf:v*2 ^ (8*(5-l.length))<4294967296:=by
     rw [<-hfp,Nat.mul_comm]
     exact Nat.mul_lt_mul_of_pos_left hv (Nat.pow_pos (by omega))
    have s2:=Bi1 v (8*(5-l.length)) (by omega) (by omega)
    rw [show ((1:Nat):Int)=1 from rfl] at s1
    rw [s1,s2,Nat.one_mul]
    by_cases hc:q<2 ^ (8*(5-l.length))
    ·rw [B4,if_pos hc,B85 _ _ (by omega) (by omega),Wx v q _ hc]
     simp only [Bool.not_true,cond_false]
     obtain ⟨n,rfl⟩:∃ m,n=m+1:=⟨n-1,by omega⟩
     rw [Et]
     rw [hn1,A8,A6]
     rfl
    ·rw [A6,if_neg hc];rfl
   ·obtain ⟨y,z,hyz⟩:∃ y z,l.drop (i+1)=y::z:=⟨_,_,BS l (i+1) (by omega)⟩
    rw [hyz,B4]
    simp only [cond_true]
    by_cases hc:q<=255
    ·have s2:=Bi1 v 8 (by omega) (by omega)
     rw [show ((8:Nat):Int)=8 from rfl] at s2
     rw [A6,if_pos hc,s2,B85 _ _ (by omega) (by omega),Wx v q 8 (by omega),hn1,A8]
     rw [<-hyz]
     exact ih (i+1) _ n (by omega) (by omega) (by omega) (by rw [Nat.pow_succ];omega)
    ·rw [B4,if_neg hc];rfl
theorem An8 (free m:Nat):∀ (l:List By) (v w:Nat),v<256 ^ m->BQ free v l=some w->w<256 ^ (m+(l.length-1))*2 ^ free
 | [],v,w,hv,h=>by cases h
 | p::r,v,w,hv,h=>by
  simp only [BQ] at h
  cases hq:Lq p with
  | none=>simp [hq] at h
  | some q=>
   simp only [hq] at h
   cases r with
   | nil=>
    simp only at h
    split at h
    ·rename_i hc
     cases h
     simp only [List.length_cons,List.length_nil,Nat.add_sub_cancel,Nat.add_zero]
     have:(v+1)*2 ^ free<=256 ^ m*2 ^ free:=Nat.mul_le_mul_right _ hv
     grind
    grind
   | cons y z=>
    simp only at h
    split at h
    ·rename_i hc
     have:=An8 free (m+1) (y::z) (v*256+q) w (by rw [Nat.pow_succ];omega) h
     grind
    grind
theorem Cd9 {s:By} {w:Nat} (h:pnB s=some w):w<4294967296:=by
 unfold pnB at h
 split at h
 ·cases h
 ·rename_i hc
  have hp:=Dp s
  have:=An8 _ 0 (D1 s) 0 w (by decide) h
  have e:(D1 s).length=1\/(D1 s).length=2\/(D1 s).length=3\/(D1 s).length=4:=by omega
  grind
theorem Az4 {R:Type} {k0:Int->Bool->Option R} (s:By) (h0:A2 s.length=true):B03 LF s k0=k0 (Az (pnB s):Int) (pnB s).isSome:=by
 have hs:=N5 h0
 have:=F6
 have hp:=Dp s
 unfold B03
 rw [h0,E1]
 by_cases h:4<(D1 s).length
 ·rw [B4]
  unfold pnB
  rw [if_pos h]
  rfl
 ·rw [A6]
  simp only [cond_true,cond_false]
  refine Eq.trans (Az3 (D1 s) hp.1 (by omega) (λx hx=>Nat.le_trans (BM hx) hs) (D1 s).length 0 0 LF (by omega) (by omega) (by omega) (by decide)) ?_
  have e:pnB s=BQ (8*(5-(D1 s).length)) 0 (D1 s):=by unfold pnB;rw [if_neg h]
  rw [List.drop_zero,<-e]
  cases hq:pnB s with
  | none=>rfl
  | some w=>
   have:=Cd9 hq
   simp only [Az,Option.getD_some,Option.isSome_some]
   rw [CS]
theorem An1:∀ (l:List By) (v w m:Nat),v<256 ^ m->RV v l=some w->w<256 ^ (m+l.length)
 | [],v,w,m,hv,h=>by simp only [RV,Option.some.injEq] at h;subst h;simpa using hv
 | p::r,v,w,m,hv,h=>by
  simp only [RV] at h
  cases hq:oct p with
  | none=>simp [hq] at h
  | some q=>
   simp only [hq] at h
   have hq1:=(Bz1.1 hq).1
   have:=An1 r (v*256+q) w (m+1) (by rw [Nat.pow_succ];omega) h
   grind
theorem Bz2 (s:By):oct s=match G6 10 0 s with | some n=>(if n<=255 then (if Lib.decDigits n=s then some n else none) else none) | none=>none:=by
 unfold oct
 grind
theorem Bl3 {R:Type} {k0:Unit->Option R} {k1:Int->Option R} (l:List By) (hm:l.length=4) (hl:∀ x∈l,x.length<=1000000000):∀ (r i v n:Nat),i+r=4->r<n->v<256 ^ i->
  Nr LF n (v:Int) (C5 l) 4 (i:Int) k0 k1=match RV v (l.drop i) with | some w=>k1 (w:Int) | none=>k0 ():=by
 intro r
 induction r with
 | zero=>
  intro i v n hi hn hv
  obtain ⟨n,rfl⟩:∃ m,n=m+1:=⟨n-1,by omega⟩
  rw [Nr]
  rw [A6,List.drop_of_length_le (by omega)]
  rfl
 | succ r ih=>
  intro i v n hi hn hv
  obtain ⟨n,rfl⟩:∃ m,n=m+1:=⟨n-1,by omega⟩
  rw [Nr,BS l i (by omega)]
  have hx:=hl _ (Bf9 (show i<l.length by omega))
  have hpw:256 ^ i<=16777216:=by
   have:i=0\/i=1\/i=2\/i=3:=by omega
   grind
  simp (disch:=omega) only [D8,E1,O6,cond_true,Int.toNat_natCast,U2,Ak,E2,Vb,vl]
  simp only [RV]
  have hn1:((i:Int)+1)=((i+1:Nat):Int):=by omega
  rw [Bz2]
  cases hq:G6 10 0 (l.getD i []) with
  | none=>rfl
  | some q=>
   have hql:=Zx (by unfold Gg;omega) hq
   have hsat:Gg=1099511627776:=rfl
   simp only [Option.isSome_some,Bool.not_true,cond_false,Az,Option.getD_some,Int.toNat_natCast]
   by_cases hc:q<=255
   ·rw [A6,if_pos hc,Z1]
    simp only [cond_false,cond_true]
    by_cases he:Lib.decDigits q=l.getD i []
    ·have s2:=Cm3 v 8 (by omega) (by omega)
     rw [show ((8:Nat):Int)=8 from rfl] at s2
     rw [show (Lib.decDigits q==l.getD i [])=true by simpa using he,if_pos he,s2,CS,Ck7 _ _ (by omega) (by omega),Wx v q 8 (by omega),hn1,A8]
     exact ih (i+1) _ n (by omega) (by omega) (by rw [Nat.pow_succ];omega)
    ·rw [show (Lib.decDigits q==l.getD i [])=false from beq_eq_false_iff_ne.2 he,if_neg he];rfl
   ·rw [B4,if_neg hc];rfl
theorem Bl4 {R:Type} {k0:Int->Bool->Option R} (s:By) (h0:A2 s.length=true):v4p LF s k0=k0 (Az (v4B s):Int) (v4B s).isSome:=by
 have hs:=N5 h0
 have:=F6
 unfold v4p v4B
 rw [h0]
 simp only [cond_true,vl,List.getD_cons_zero,E1,show ((1:Nat)==1)=true from rfl]
 by_cases h:(pcs 46 s).length=4
 ·rw [if_pos h,h,show (((4:Nat):Int) != 4)=false from rfl,cond_false]
  refine Eq.trans (Bl3 (pcs 46 s) h (λx hx=>Nat.le_trans (Ep hx).2 hs) 4 0 0 LF (by omega) (by omega) (by decide)) ?_
  rw [List.drop_zero]
  cases RV 0 (pcs 46 s)<;>rfl
 ·rw [if_neg h,show (((pcs 46 s).length:Int) != 4)=true by simp<;>omega]
  rfl
theorem Bl2 {R:Type} {k0:By->Option R} (v:Int) (h0:ltN v 4294967296=true):v4f LF v k0=k0 (Kk v.toNat):=by
 obtain ⟨hb0,hb1⟩:=D2.1 h0
 obtain ⟨m,rfl⟩:=Int.eq_ofNat_of_zero_le hb0
 have:=F6
 obtain ⟨f,hf⟩:∃ f,LF=f+1+1+1+1+1:=⟨LF-5,by omega⟩
 have step:∀ (n:Nat) (i:Nat) (out:By) (K:By->Option R),i<=24->out.length<=1000->Dz LF (n+1) (m:Int) out (i:Int) K=Dz LF n (m:Int) (out++(Lib.decDigits (m / 2 ^ i % 256)++[46])) ((i:Int)-8) K:=by
  intro n i out K hi ho
  rw [Dz]
  have hlt:m / 2 ^ i<4294967296:=Nat.lt_of_le_of_lt (Nat.div_le_self _ _) (by omega)
  have e1:VO .u32 (DI .u32 (m:Int) (i:Int)) 255=((m / 2 ^ i % 256:Nat):Int):=by
   rw [Ao3 .u32 m i (by show i<=32;omega),show (255:Int)=((255:Nat):Int) from rfl,Ca3 _ _ hlt (by omega),Ca2]
  have hl:=F4 (m / 2 ^ i % 256) (by omega)
  have e2:A4 ((m / 2 ^ i % 256:Nat):Int)=((m / 2 ^ i % 256:Nat):Int):=A8
  rw [A6,decide_eq_true (show (0:Int)<=(i:Int) by omega),e1]
  simp only [vl,e2,Int.toNat_natCast,Bool.not_false,cond_true]
  rw [Z1,O8 (by omega),O8 (by simp<;>omega),A8]
  rfl
 have fin:∀ (n:Nat) (out:By) (K:By->Option R),Dz LF (n+1) (m:Int) out (-8) K=K out:=by
  intro n out K
  rw [Dz]
  simp_all
 have l24:=F4 (m / 2 ^ 24 % 256) (by omega)
 have l16:=F4 (m / 2 ^ 16 % 256) (by omega)
 have l8:=F4 (m / 2 ^ 8 % 256) (by omega)
 have l0:=F4 (m / 2 ^ 0 % 256) (by omega)
 have k24:=F4 (m / 16777216 % 256) (by omega)
 have k16:=F4 (m / 65536 % 256) (by omega)
 have k8:=F4 (m / 256 % 256) (by omega)
 have k0':=F4 (m % 256) (by omega)
 unfold v4f
 rw [show Dz LF LF=Dz LF (f+1+1+1+1+1) by rw [<-hf]]
 rw [show (24:Int)=((24:Nat):Int) from rfl,step _ 24 _ _ (by omega) (by simp)]
 rw [show ((24:Nat):Int)-8=((16:Nat):Int) from rfl,step _ 16 _ _ (by omega) (by simp<;>omega)]
 rw [show ((16:Nat):Int)-8=((8:Nat):Int) from rfl,step _ 8 _ _ (by omega) (by simp<;>omega)]
 rw [show ((8:Nat):Int)-8=((0:Nat):Int) from rfl,step _ 0 _ _ (by omega) (by simp<;>omega)]
 rw [show ((0:Nat):Int)-8 = -8 from rfl,fin]
 have hm24:m / 2 ^ 24 % 256=m / 16777216:=by omega
 have e:(([]:By)++(Lib.decDigits (m / 2 ^ 24 % 256)++[46])++(Lib.decDigits (m / 2 ^ 16 % 256)++[46])++(Lib.decDigits (m / 2 ^ 8 % 256)++[46])++(Lib.decDigits (m / 2 ^ 0 % 256)++[46]))=Kk m++[46]:=by
  unfold Kk
  grind
 have hlen:(Kk m++[46]).length<=1000:=by rw [<-e];simp;omega
 rw [e]
 have hl1:((Kk m++[46]).length:Int)-1=((Kk m).length:Int):=by simp<;>omega
 simp only [vl,hl1]
 simp only [List.length_append,List.length_singleton] at hlen
 rw [A8,Hp (by omega) (by omega) (by simp<;>omega),U1,Int.toNat_natCast,Int.toNat_natCast]
 grind
theorem Ck6 (a b:Nat) (ha:a<65536) (hb:b<65536):bOr .u16 (a:Int) (b:Int)=((a ||| b:Nat):Int):=by
 unfold bOr
 rw [show IntKind.bits .u16=16 from rfl,Ca9 16 a b (by omega) (by omega)]
 have:a ||| b<2 ^ 16:=Nat.or_lt_two_pow (by omega) (by omega)
 exact Ua
theorem Cm2 (a m:Nat) (h:a*2 ^ m<65536) (hm:m<=16):Qf .u16 (a:Int) (m:Int)=((a*2 ^ m:Nat):Int):=by
 unfold Qf
 rw [Int.toNat_natCast,show IntKind.bits .u16=16 from rfl,Nat.min_eq_left hm]
 have:(a:Int)*2 ^ m=((a*2 ^ m:Nat):Int):=by simp
 rw [this]
 exact Ua
theorem Ae2 (v d:Nat) (hv:v<4096) (hd:d<16):bOr .u16 (Qf .u16 (v:Int) 4) (d:Int)=((v*16+d:Nat):Int):=by
 have:=Cm2 v 4 (by omega) (by omega)
 rw [show ((4:Nat):Int)=4 from rfl] at this
 rw [this,Ck6 _ _ (by omega) (by omega),Wx v d 4 (by omega)]
theorem Bb5 {R:Type} {k0:Unit->Option R} {k1:Int->Option R} (s:By) (hs:s.length<=4):∀ (r i v n:Nat),i+r=s.length->r<n->v<16 ^ i->
  Bu LF n s (v:Int) (s.length:Int) (i:Int) k0 k1=match Ov v (s.drop i) with | some w=>k1 (w:Int) | none=>k0 ():=by
 intro r
 induction r with
 | zero=>
  intro i v n hi hn hv
  obtain ⟨n,rfl⟩:∃ m,n=m+1:=⟨n-1,by omega⟩
  rw [Bu]
  rw [A6,List.drop_of_length_le (by omega)]
  rfl
 | succ r ih=>
  intro i v n hi hn hv
  obtain ⟨n,rfl⟩:∃ m,n=m+1:=⟨n-1,by omega⟩
  rw [Bu,M8 s i (by omega)]
  rw [K6]
  have hbt:=(s.getD i 0).toNat_lt
  generalize s.getD i 0=b at *
  have hn1:((i:Int)+1)=((i+1:Nat):Int):=by omega
  have hp:16 ^ i<=4096:=by
   have:i=0\/i=1\/i=2\/i=3:=by omega
   rcases this with rfl | rfl | rfl | rfl<;>decide
  simp (disch:=omega) only [D8,O6,cond_true,vl,M4,Oy,Ox,Ow]
  rw [hn1]
  simp only [Ov]
  have go:∀ d:Nat,d<16->Bu LF n s ((v*16+d:Nat):Int) (s.length:Int) ((i+1:Nat):Int) k0 k1=match Ov (v*16+d) (s.drop (i+1)) with | some w=>k1 (w:Int) | none=>k0 ():=
   λd hd=>ih (i+1) _ n (by omega) (by omega) (by rw [Nat.pow_succ];omega)
  rcases Sq b with ⟨h1,h2,e⟩ | ⟨h1,h2,e⟩ | ⟨h1,h2,e⟩ | ⟨h1,h2,h3,e⟩
  ·have e2:Qz (wu8 ((b.toNat:Int)-48))=((dig b:Nat):Int):=by rw [W8,Ua];omega
   simp (disch:=omega) only [D8,I3,Bool.not_true,Bool.not_false,cond_false,cond_true,e2,Ae2,if_pos (show dig b<16 by omega)]
   exact go _ (by omega)
  ·have e2:Qz (wu8 (wu8 ((b.toNat:Int)-97)+10))=((dig b:Nat):Int):=by rw [NK (n:=(b.toNat:Int)-97) (by omega) (by omega),W8,Ua];omega
   simp (disch:=omega) only [D8,I3,Bool.not_true,Bool.not_false,cond_false,cond_true,e2,Ae2,if_pos (show dig b<16 by omega)]
   exact go _ (by omega)
  ·have e2:Qz (wu8 (wu8 ((b.toNat:Int)-65)+10))=((dig b:Nat):Int):=by rw [NK (n:=(b.toNat:Int)-65) (by omega) (by omega),W8,Ua];omega
   simp (disch:=omega) only [D8,I3,Bool.not_true,Bool.not_false,cond_false,cond_true,e2,Ae2,if_pos (show dig b<16 by omega)]
   exact go _ (by omega)
  ·rw [if_neg (show ¬ dig b<16 by omega)]
   by_cases c1:b.toNat<48
   ·simp (disch:=omega) only [D8,I3,Bool.not_true,Bool.not_false,cond_false,cond_true]
   ·by_cases c2:b.toNat<65
    ·simp (disch:=omega) only [D8,I3,Bool.not_true,Bool.not_false,cond_false,cond_true]
    ·by_cases c3:b.toNat<97
     ·simp (disch:=omega) only [D8,I3,Bool.not_true,Bool.not_false,cond_false,cond_true]
     ·simp (disch:=omega) only [D8,I3,Bool.not_true,Bool.not_false,cond_false,cond_true]
theorem At3 {R:Type} {k0:Int->Bool->Option R} (s:By) (h0:A2 s.length=true):Bb6 LF s k0=k0 (Az (grp s):Int) (grp s).isSome:=by
 have:=F6
 unfold Bb6 grp
 by_cases h1:s=[]
 ·subst h1;rfl
 ·rw [show (s==([]:By))=false from beq_eq_false_iff_ne.2 h1]
  by_cases h2:4<s.length
  ·rw [B4,if_pos (.inr h2)];rfl
  ·rw [A6,if_neg (by intro h;rcases h with h | h;exact h1 h;exact h2 h)]
   refine Eq.trans (Bb5 s (by omega) s.length 0 0 LF (by omega) (by omega) (by decide)) ?_
   rw [List.drop_zero]
   cases Ov 0 s<;>rfl
theorem QD:∀ (s:By) (v w m:Nat),v<16 ^ m->Ov v s=some w->w<16 ^ (m+s.length)
 | [],v,w,m,hv,h=>by simp only [Ov,Option.some.injEq] at h;subst h;simpa using hv
 | b::r,v,w,m,hv,h=>by
  simp only [Ov] at h
  split at h
  ·have:=QD r (v*16+dig b) w (m+1) (by rw [Nat.pow_succ];omega) h
   grind
  ·cases h
theorem Cb8 {s:By} {v:Nat} (h:grp s=some v):v<65536:=by
 unfold grp at h
 split at h
 ·cases h
 ·rename_i hc
  have:=QD s 0 v 0 (by decide) h
  have hl:s.length<=4:=by omega
  have:16 ^ (0+s.length)<=16 ^ 4:=Nat.pow_le_pow_right (by omega) (by omega)
  omega
theorem M0 (l:List Nat):(E7 l).length=l.length:=by simp [E7]
theorem Qs (a b:List Nat):E7 (a++b)=E7 a++E7 b:=by simp [E7]
theorem MZ (l:List Nat):(E7 l).isEmpty=l.isEmpty:=by cases l<;>rfl
theorem An3 {l:List Nat} {i:Nat} (h:i<l.length):okE ⟨true,false,[.int .u16]⟩ (E7 l) i 0=true:=by
 unfold okE E7
 simp [List.getD_eq_getElem?_getD,h,okS,SV.has]
theorem Bb2 (l:List Nat) (i:Nat):gE (E7 l) i 0=(l.getD i 0:Int):=by
 unfold gE gC E7
 by_cases h:i<l.length
 ·simp [List.getD_eq_getElem?_getD,List.getElem?_eq_getElem h,SV.gI]
 ·simp [List.getD_eq_getElem?_getD,List.getElem?_eq_none (show l.length<=i by omega),SV.gI]
theorem AI:∀ (last:Bool) (l:List By) (r:List Nat),Ji last l=some r->r.length<=2*l.length
 | last,[],r,h=>by simp only [Ji,Option.some.injEq] at h;subst h;simp
 | last,x::l,r,h=>by
  simp only [Ji] at h
  split at h
  ·cases hq:Ji last l with
   | none=>simp [hq] at h
   | some q=>
    simp only [hq,Option.map_some,Option.some.injEq] at h
    subst h
    have:=AI last l q hq
    grind
  grind
theorem Bl1 {s:By} {v:Nat} (h:v4B s=some v):v<4294967296:=by
 unfold v4B at h
 split at h
 ·rename_i hc
  have:=An1 (pcs 46 s) 0 v 0 (by decide) h
  grind
 ·cases h
theorem Ak8:∀ (last:Bool) (l:List By) (r:List Nat),Ji last l=some r->∀ x∈r,x<65536
 | last,[],r,h,x,hx=>by simp only [Ji,Option.some.injEq] at h;subst h;simp at hx
 | last,y::l,r,h,x,hx=>by
  simp only [Ji] at h
  split at h
  ·rename_i v hv
   cases hq:Ji last l with
   | none=>simp [hq] at h
   | some q=>
    simp only [hq,Option.map_some,Option.some.injEq] at h
    subst h
    rcases List.mem_cons.1 hx with rfl | hx
    ·exact Cb8 hv
    ·exact Ak8 last l q hq x hx
  ·split at h
   ·rename_i v hv
    split at h
    ·simp only [Option.some.injEq] at h
     subst h
     have:=Bl1 hv
     grind
    grind
   ·cases h
theorem YC {R:Type} {k0:LL->Option R} {k1:LL->Option R} (last:Bool) (l:List By) (hL:l.length<=1000000001) (hl:∀ x∈l,x.length<=1000000000):∀ (r i n:Nat) (d:List Nat),i+r=l.length->r<n->d.length<=2*i->
  (∀ q,Ji last (l.drop i)=some q->Ax LF n last (C5 l) (l.length:Int) (i:Int) (E7 d) k0 k1=k1 (E7 (d++q)))/\
  (Ji last (l.drop i)=none->∃ d',Ax LF n last (C5 l) (l.length:Int) (i:Int) (E7 d) k0 k1=k0 d'):=by
 intro r
 induction r with
 | zero=>
  intro i n d hi hn hd
  obtain ⟨n,rfl⟩:∃ m,n=m+1:=⟨n-1,by omega⟩
  rw [Ax,List.drop_of_length_le (by omega)]
  rw [A6]
  refine ⟨λq hq=>?_,λh=>(by cases h)⟩
  simp only [Ji,Option.some.injEq] at hq
  subst hq
  simp
 | succ r ih=>
  intro i n d hi hn hd
  obtain ⟨n,rfl⟩:∃ m,n=m+1:=⟨n-1,by omega⟩
  rw [Ax,BS l i (by omega)]
  have hx:=hl _ (Bf9 (show i<l.length by omega))
  have hn1:((i:Int)+1)=((i+1:Nat):Int):=by omega
  simp (disch:=omega) only [D8,E1,O6,cond_true,Int.toNat_natCast,U2,Ak,E2,vl,M0,I9,M4]
  rw [hn1]
  simp only [Ji]
  cases hg:grp (l.getD i []) with
  | some v=>
   simp only [Option.isSome_some,cond_true,Az,Option.getD_some]
   have hrow:E7 d++[[SV.int .u16 (v:Int)]]=E7 (d++[v]):=by rw [Qs];rfl
   rw [hrow]
   have:=ih (i+1) n (d++[v]) (by omega) (by omega) (by simp<;>omega)
   refine ⟨λq hq=>?_,λh=>?_⟩
   ·cases hq':Ji last (l.drop (i+1)) with
    | none=>simp [hq'] at hq
    | some q'=>
     simp only [hq',Option.map_some,Option.some.injEq] at hq
     subst hq
     rw [this.1 q' hq']
     simp
   ·cases hq':Ji last (l.drop (i+1)) with
    | none=>exact this.2 hq'
    | some q'=>simp [hq'] at h
  | none=>
   simp only [Option.isSome_none,cond_false]
   cases hv:v4B (l.getD i []) with
   | none=>
    simp only [Option.isSome_none,Bool.not_false,cond_true]
    exact ⟨λq hq=>(by cases hq),λ_=>⟨_,rfl⟩⟩
   | some v=>
    have hvl:=Bl1 hv
    simp only [Option.isSome_some,Bool.not_true,cond_false,Az,Option.getD_some]
    cases last with
    | false=>
     simp only [Bool.not_false,cond_true,Bool.false_eq_true,false_and,if_false]
     exact ⟨λq hq=>(by cases hq),λ_=>⟨_,rfl⟩⟩
    | true=>
     simp only [Bool.not_true,cond_false,true_and]
     by_cases hr:r=0
     ·have hd':l.drop (i+1)=[]:=List.drop_of_length_le (by omega)
      rw [A6,hd',if_pos rfl,show (16:Int)=((16:Nat):Int) from rfl,Ao3 .u32 v 16 (by decide)]
      refine ⟨λq hq=>?_,λh=>(by cases h)⟩
      simp only [Option.some.injEq] at hq
      subst hq
      have e1:Qz ((v / 2 ^ 16:Nat):Int)=((v / 65536:Nat):Int):=Ua
      have e2:Qz (v:Int)=((v % 65536:Nat):Int):=Bm1 v
      rw [e1,e2,Qs]
      rfl
     ·have hne:l.drop (i+1)≠[]:=by
       rw [BS l (i+1) (by omega)];simp
      rw [B4,if_neg hne]
      exact ⟨λq hq=>(by cases hq),λ_=>⟨_,rfl⟩⟩
theorem Li (c:UInt8) {s:By} (hs:s.length<=1000000000):(pcs c s).length<=1000000001:=by
 have:=Hk c s
 grind
theorem YD (s:By) (last:Bool) (h0:A2 s.length=true):∃ r H,Ak9 LF s last (λl=>rv (.tup [.fl 0,.s (.bool true)]) [.arr true 55 1 l]) (λl=>rv (.tup [.fl 1,.s (.bool false)]) [.arr true 55 1 l,.arr true 55 1 []])=rv r H/\
  r.stab [1,0] H = .tup [.s (.sl (gvs s last).isEmpty (gvs s last).isEmpty 1 (E7 (gvs s last))),.s (.bool (Aw s last).isSome)]:=by
 have hs:=N5 h0
 have:=F6
 unfold Ak9 gvs Aw
 by_cases h1:s=[]
 ·subst h1
  exact ⟨_,_,rfl,rfl⟩
 ·rw [show (s==([]:By))=false from beq_eq_false_iff_ne.2 h1,h0,if_neg h1]
  simp only [cond_false,cond_true,vl,List.getD_cons_zero,E1,show ((1:Nat)==1)=true from rfl]
  obtain ⟨a,b⟩:=YC (k0:=λl=>rv (.tup [.fl 1,.s (.bool false)]) [.arr true 55 1 l,.arr true 55 1 []]) (k1:=λl=>rv (.tup [.fl 0,.s (.bool true)]) [.arr true 55 1 l]) last (pcs 58 s) (Li 58 hs) (λx hx=>Nat.le_trans (Ep hx).2 hs) (pcs 58 s).length 0 LF [] (by omega) (by have:=Li 58 hs;omega) (by simp)
  rw [List.drop_zero] at a b
  cases hq:Ji last (pcs 58 s) with
  | some q=>
   refine ⟨_,_,a q hq,?_⟩
   simp [PV.stab,Oo,Vy,PV.snap,K2,MZ]
  | none=>
   obtain ⟨d',e⟩:=b hq
   refine ⟨_,_,e,?_⟩
   simp [PV.stab,Oo,Vy,PV.snap,K2,E7]
theorem Cl6 {α:Type} {W:List α} (h:W.length=8):∃ a b c d e f g i,W=[a,b,c,d,e,f,g,i]:=by
 match W,h with
 | [a,b,c,d,e,f,g,i],_=>exact ⟨a,b,c,d,e,f,g,i,rfl⟩
def r8 (n:Nat):LL:=List.replicate n [SV.int .u16 0]
theorem Ce2 (n:Nat):r8 n=E7 (List.replicate n 0):=by simp [r8,E7]
theorem Bb8 {s:By} {last:Bool} {q:List Nat} (h:Aw s last=some q):gvs s last=q:=by unfold gvs;rw [h];rfl
theorem Br9 (s:By):(Lib.cut s [58,58]).1.length<=s.length/\(Lib.cut s [58,58]).2.1.length<=s.length:=by
 unfold Lib.cut
 grind
theorem Ap2 {R:Type} {K:LL->LL->Option R} (X Y:List Nat) (h:X.length+Y.length<=8) :
  Kl (E7 X) (E7 Y) (r8 8) K=K (E7 (X++List.replicate (8-X.length-Y.length) 0++Y)) (E7 (X++List.replicate (8-X.length-Y.length) 0++Y)):=by
 unfold Kl
 have l9:(List.take 0 (r8 8)++(List.take 8 (E7 X)++List.drop (0+min (E7 X).length 8) (r8 8)))=E7 (X++List.replicate (8-X.length) 0):=by
  rw [M0,Nat.min_eq_left (show X.length<=8 by omega),List.take_of_length_le (l:=E7 X) (i:=8) (by rw [M0];omega),Qs,Nat.zero_add,Ce2,List.take_zero,List.nil_append]
  unfold E7
  rw [<-List.map_drop,List.drop_replicate]
 have en:A4 (8-(Y.length:Int))=((8-Y.length:Nat):Int):=by rw [A8];omega
 have ll:(E7 (X++List.replicate (8-X.length) 0)).length=8:=by simp [M0]<;>omega
 have l11:(List.take (8-Y.length) (E7 (X++List.replicate (8-X.length) 0))++(List.take (8-(8-Y.length)) (E7 Y)++List.drop (8-Y.length+min Y.length (8-(8-Y.length))) (E7 (X++List.replicate (8-X.length) 0))))=E7 (X++List.replicate (8-X.length-Y.length) 0++Y):=by
  rw [List.drop_of_length_le (by rw [ll];omega),List.take_of_length_le (l:=E7 Y) (by rw [M0];omega),Qs (X++_) Y,List.append_nil]
  congr 1
  unfold E7
  rw [<-List.map_take,List.take_append,List.take_of_length_le (by omega),List.take_replicate]
  grind
 have hW:(X++List.replicate (8-X.length-Y.length) 0++Y).length=8:=by simp<;>omega
 simp only [vl]
 rw [l9]
 simp only [M0,en,Int.toNat_natCast]
 rw [l11]
 simp only [M0]
 rw [show (r8 8).length=8 from rfl,show List.length (X++List.replicate (8-X.length) (0:Nat))=8 by simp<;>omega,M7,decide_eq_true (show 8-Y.length+(8-(8-Y.length))<=8 by omega)]
 simp only [decide_true,cond_true,Nat.le_refl,hW]
 generalize (X++List.replicate (8-X.length-Y.length) 0++Y)=W at *
 obtain ⟨a,b,c,d,e,f,g,i,rfl⟩:=Cl6 hW
 rfl
theorem Bl9 {R:Type} {k0:Int->Int->Int->Int->Int->Int->Int->Int->Bool->LL->LL->Option R} (s:By) (h0:A2 s.length=true) :
  ∃ l l',v6p LF s k0=k0 (v6c 0 s) (v6c 1 s) (v6c 2 s) (v6c 3 s) (v6c 4 s) (v6c 5 s) (v6c 6 s) (v6c 7 s) (v6B s).isSome l l':=by
 have hs:=N5 h0
 have hcl:=Br9 s
 unfold v6p v6c
 rw [h0]
 have bad:∀ (h:v6B s=none),k0 0 0 0 0 0 0 0 0 false (r8 8) (r8 8)=k0 ((((v6B s).getD z8).getD 0 0:Nat):Int) ((((v6B s).getD z8).getD 1 0:Nat):Int) ((((v6B s).getD z8).getD 2 0:Nat):Int) ((((v6B s).getD z8).getD 3 0:Nat):Int) ((((v6B s).getD z8).getD 4 0:Nat):Int) ((((v6B s).getD z8).getD 5 0:Nat):Int) ((((v6B s).getD z8).getD 6 0:Nat):Int) ((((v6B s).getD z8).getD 7 0:Nat):Int) (v6B s).isSome (r8 8) (r8 8):=by
  intro h;rw [h];rfl
 simp (disch:=omega) only [cond_true,vl,E2]
 have e6:v6B s=match Aw (Lib.cut s [58,58]).1 (!(Lib.cut s [58,58]).2.2),Aw (Lib.cut s [58,58]).2.1 true with
  | some x,some y=>if (Lib.cut s [58,58]).2.2 then (if x.length+y.length<=7 then some (x++List.replicate (8-x.length-y.length) 0++y) else none)
   else if x.length+y.length=8 then some (x++y) else none
  | _,_=>none:=rfl
 generalize (Lib.cut s [58,58]).1=A at *
 generalize (Lib.cut s [58,58]).2.1=B at *
 generalize (Lib.cut s [58,58]).2.2=gap at *
 cases hx:Aw A (!gap) with
 | none=>exact ⟨_,_,bad (by rw [e6,hx])⟩
 | some X=>
  cases hy:Aw B true with
  | none=>exact ⟨_,_,bad (by rw [e6,hx,hy])⟩
  | some Y=>
   have hXl:X.length<=2000000002:=by
    unfold Aw at hx
    split at hx
    ·grind
    ·have:=AI _ _ _ hx;have:=Li 58 (s:=A) (by omega);omega
   have hYl:Y.length<=2000000002:=by
    unfold Aw at hy
    split at hy
    ·grind
    ·have:=AI _ _ _ hy;have:=Li 58 (s:=B) (by omega);omega
   rw [hx,hy] at e6
   simp only [Bb8 hx,Bb8 hy,M0,Option.isSome_some,Bool.not_true,cond_false]
   rw [A8]
   have fin:∀ (W:List Nat),W.length=8->v6B s=some W->∃ l l',(cond ((decide (8=(E7 W).length*1))&&(okS ⟨true,true,[.int .u16,.int .u16,.int .u16,.int .u16,.int .u16,.int .u16,.int .u16,.int .u16]⟩ (List.flatten (E7 W)) 0))
     (k0 (SV.gI (List.getD (List.flatten (E7 W)) 0 SV.nilp)) (SV.gI (List.getD (List.flatten (E7 W)) 1 SV.nilp)) (SV.gI (List.getD (List.flatten (E7 W)) 2 SV.nilp)) (SV.gI (List.getD (List.flatten (E7 W)) 3 SV.nilp)) (SV.gI (List.getD (List.flatten (E7 W)) 4 SV.nilp)) (SV.gI (List.getD (List.flatten (E7 W)) 5 SV.nilp)) (SV.gI (List.getD (List.flatten (E7 W)) 6 SV.nilp)) (SV.gI (List.getD (List.flatten (E7 W)) 7 SV.nilp)) true (E7 W) (E7 W)) none) =
     k0 ((((v6B s).getD z8).getD 0 0:Nat):Int) ((((v6B s).getD z8).getD 1 0:Nat):Int) ((((v6B s).getD z8).getD 2 0:Nat):Int) ((((v6B s).getD z8).getD 3 0:Nat):Int) ((((v6B s).getD z8).getD 4 0:Nat):Int) ((((v6B s).getD z8).getD 5 0:Nat):Int) ((((v6B s).getD z8).getD 6 0:Nat):Int) ((((v6B s).getD z8).getD 7 0:Nat):Int) (v6B s).isSome l l':=by
    intro W hW h
    rw [h]
    obtain ⟨a,b,c,d,e,f,g,i,rfl⟩:=Cl6 hW
    exact ⟨_,_,rfl⟩
   cases gap with
   | false=>
    simp only [Bool.not_false,cond_true,Bool.false_eq_true,if_false] at e6 ⊢
    by_cases h8:X.length+Y.length=8
    ·rw [if_pos h8] at e6
     rw [show ((X.length:Int)+(Y.length:Int) != 8)=false by simp;omega]
     simp only [cond_false]
     rw [show (List.replicate 8 [SV.int IntKind.u16 0])=r8 8 from rfl,Ap2 X Y (by omega)]
     have hz:8-X.length-Y.length=0:=by omega
     rw [hz]
     simp only [List.replicate_zero,List.append_nil]
     exact fin (X++Y) (by simp<;>omega) e6
    ·rw [if_neg h8] at e6
     rw [show ((X.length:Int)+(Y.length:Int) != 8)=true by simp;omega]
     exact ⟨_,_,bad e6⟩
   | true=>
    simp only [Bool.not_true,cond_false,cond_true,if_true] at e6 ⊢
    by_cases h8:X.length+Y.length<=7
    ·rw [if_pos h8] at e6
     rw [A6]
     simp only [cond_false]
     rw [show (List.replicate 8 [SV.int IntKind.u16 0])=r8 8 from rfl,Ap2 X Y (by omega)]
     exact fin _ (by simp<;>omega) e6
    ·rw [if_neg h8] at e6
     rw [B4]
     exact ⟨_,_,bad e6⟩
theorem Bh9 {x:Nat} {r:List Nat}:To (x::r)=if x=0 then To r+1 else 0:=by
 unfold To
 by_cases h:x=0<;>simp [h]
theorem Ao1 (l:List Nat):To l<=l.length:=by
 unfold To
 exact (List.takeWhile_sublist _).length_le
theorem Bp4 {R:Type} {k0:Int->Int->Int->Int->LL->Option R} (W:List Nat) (hW:W.length=8) (at' most:Int) (i:Nat):∀ (r j n:Nat),i+j+r=8->r<n->
  Eb LF n at' most (i:Int) (j:Int) (E7 W) k0=k0 at' most (i:Int) ((j+To (W.drop (i+j)):Nat):Int) (E7 W):=by
 intro r
 induction r with
 | zero=>
  intro j n hj hn
  obtain ⟨n,rfl⟩:∃ m,n=m+1:=⟨n-1,by omega⟩
  rw [Eb]
  rw [A8,A6,List.drop_of_length_le (by omega)]
  rfl
 | succ r ih=>
  intro j n hj hn
  obtain ⟨n,rfl⟩:∃ m,n=m+1:=⟨n-1,by omega⟩
  rw [Eb]
  have e1:A4 ((i:Int)+(j:Int))=((i+j:Nat):Int):=by rw [A8];rfl
  have e2:A4 ((j:Int)+1)=((j+1:Nat):Int):=by rw [A8];rfl
  have hd:W.drop (i+j)=W.getD (i+j) 0::W.drop (i+(j+1)):=by
   rw [List.getD_eq_getElem?_getD,List.getElem?_eq_getElem (by omega),Option.getD_some,<-Nat.add_assoc,List.getElem_cons_drop]
  simp (disch:=first | omega | (simp [M0];omega)) only [e1,e2,D8,O6,cond_true,Int.toNat_natCast,An3,Bb2,vl]
  rw [hd,Bh9]
  by_cases h:W.getD (i+j) 0=0
  ·rw [h,if_pos rfl,show (((0:Nat):Int)==0)=true from rfl,cond_true,ih (j+1) n (by omega) (by omega)]
   congr 2
   omega
  ·rw [if_neg h,show (((W.getD (i+j) 0:Nat):Int)==0)=false by rw [beq_eq_false_iff_ne];omega]
   rfl
theorem A43 {R:Type} {k0:Int->Int->LL->Option R} (W:List Nat) (hW:W.length=8):∀ (r i n z m:Nat),i+r=8->r<n->z<=8->m<=8->
  Bc LF n (z:Int) (m:Int) (i:Int) (E7 W) k0=k0 ((zGo (W.drop i) i z m).1:Nat) ((zGo (W.drop i) i z m).2:Nat) (E7 W):=by
 intro r
 induction r with
 | zero=>
  intro i n z m hi hn hz hm
  obtain ⟨n,rfl⟩:∃ m,n=m+1:=⟨n-1,by omega⟩
  rw [Bc]
  rw [A6,List.drop_of_length_le (by omega)]
  rfl
 | succ r ih=>
  intro i n z m hi hn hz hm
  obtain ⟨n,rfl⟩:∃ m,n=m+1:=⟨n-1,by omega⟩
  have hLF:=F6
  rw [Bc]
  have hin:=λK=>Bp4 (R:=R) (k0:=K) W hW (z:Int) (m:Int) i r.succ 0 LF (by omega) (by omega)
  rw [show ((0:Nat):Int)=0 from rfl] at hin
  simp only [Nat.zero_add,Nat.add_zero] at hin
  rw [B4,cond_true,hin]
  have hd:W.drop i=W.getD i 0::W.drop (i+1):=by
   rw [List.getD_eq_getElem?_getD,List.getElem?_eq_getElem (by omega),Option.getD_some,List.getElem_cons_drop]
  have hl:=Ao1 (W.drop i)
  rw [List.length_drop] at hl
  have hn1:A4 ((i:Int)+1)=((i+1:Nat):Int):=by rw [A8];rfl
  rw [hn1]
  have hz:zGo (W.drop i) i z m=if m<To (W.drop i) then zGo (W.drop (i+1)) (i+1) i (To (W.drop i)) else zGo (W.drop (i+1)) (i+1) z m:=by
   rw [hd];rfl
  rw [hz]
  by_cases h:m<To (W.drop i)
  ·rw [if_pos h,B4,cond_true]
   exact ih (i+1) n i (To (W.drop i)) (by omega) (by omega) (by omega) (by omega)
  ·rw [if_neg h,A6,cond_false]
   exact ih (i+1) n z m (by omega) (by omega) (by omega) (by omega)
theorem Pr {a0 a1 a2 a3 a4 a5 a6 a7:Int} (h:ok8 a0 a1 a2 a3 a4 a5 a6 a7=true):∃ b0 b1 b2 b3 b4 b5 b6 b7:Nat,a0=b0/\a1=b1/\a2=b2/\a3=b3/\a4=b4/\a5=b5/\a6=b6/\a7=b7/\b0<65536/\b1<65536/\b2<65536/\b3<65536/\b4<65536/\b5<65536/\b6<65536/\b7<65536:=by
 simp only [ok8,List.all_cons,List.all_nil,Bool.and_true,Bool.and_eq_true,D2] at h
 exact ⟨a0.toNat,a1.toNat,a2.toNat,a3.toNat,a4.toNat,a5.toNat,a6.toNat,a7.toNat,by omega,by omega,by omega,by omega,by omega,by omega,by omega,by omega,by omega,by omega,by omega,by omega,by omega,by omega,by omega,by omega⟩
theorem Ah6 {R:Type} {k0:Int->Int->LL->Option R} (a0 a1 a2 a3 a4 a5 a6 a7:Int) (h0:ok8 a0 a1 a2 a3 a4 a5 a6 a7=true):Aq2 LF a0 a1 a2 a3 a4 a5 a6 a7 k0=k0 ((zGo (n8 a0 a1 a2 a3 a4 a5 a6 a7) 0 0 0).1:Nat) ((zGo (n8 a0 a1 a2 a3 a4 a5 a6 a7) 0 0 0).2:Nat) (E7 (n8 a0 a1 a2 a3 a4 a5 a6 a7)):=by
 obtain ⟨b0,b1,b2,b3,b4,b5,b6,b7,rfl,rfl,rfl,rfl,rfl,rfl,rfl,rfl,h⟩:=Pr h0
 have:=F6
 unfold Aq2
 exact A43 [b0,b1,b2,b3,b4,b5,b6,b7] rfl 8 0 LF 0 0 rfl (by omega) (by omega) (by omega)
theorem Jj {n:Nat} (h:n<16):X6 n=[Wa n]:=by rw [X6,dif_pos h]
theorem Lb {n:Nat} (h:¬ n<16):X6 n=X6 (n / 16)++[Wa (n % 16)]:=by rw [X6,dif_neg h]
theorem QK:∀ n:Nat,n<65536->1<=(X6 n).length/\(X6 n).length<=4:=by
 intro n hn
 by_cases h1:n<16
 ·rw [Jj h1];simp
 rw [Lb h1]
 by_cases h2:n / 16<16
 ·rw [Jj h2];simp
 rw [Lb h2]
 by_cases h3:n / 16 / 16<16
 ·rw [Jj h3];simp
 rw [Lb h3,Jj (show n / 16 / 16 / 16<16 by omega)]
 simp
theorem Wz (n:Nat):ptI (n:Int)=Ij n:=rfl
theorem SL {R:Type} {k0:Bool->Option R} (n:Int):ME LF n k0=k0 (ptI n):=by
 unfold ME
 by_cases h:n<0
 ·rw [D8 h]
  have:ptI n=false:=by
   cases n with
   | ofNat m=>exact absurd h (by simp)
   | negSucc m=>rfl
  grind
 ·obtain ⟨m,rfl⟩:=Int.eq_ofNat_of_zero_le (show 0<=n by omega)
  rw [A6,Wz]
  unfold Ij
  by_cases h1:1114111<m
  ·rw [B4]
   have:Nat.ble m 1114111=false:=by rw [Bool.eq_false_iff,ne_eq,Nat.ble_eq];omega
   grind
  ·rw [A6]
   have:Nat.ble m 1114111=true:=by rw [Nat.ble_eq];omega
   rw [this]
   by_cases h2:m<55296
   ·rw [B4]
    have:Nat.blt m 55296=true:=by rw [Nat.blt_eq];omega
    grind
   ·rw [A6]
    have e:Nat.blt m 55296=false:=by rw [Bool.eq_false_iff,ne_eq,Nat.blt_eq];omega
    rw [e]
    simp only [Bool.not_false,cond_true,cond_false,Bool.false_or,Bool.true_and]
    congr 1
theorem OL {d k:Nat} (h:455<d):Yv d k=Yv (d / 35) (k+36):=by rw [Yv,dif_pos h]
theorem Yw {d k:Nat} (h:¬ 455<d):Yv d k=k+36*d / (d+38):=by rw [Yv,dif_neg h]
theorem RZ {R:Type} {k0:Int->Int->Option R}:∀ (d n k:Nat),d<2305843009213693952->d<n->k+d<=4611686018427387904->
  ∃ d' k',d'<=455/\k'<=k+d/\Yv d k=k'+36*d' / (d'+38)/\Cm LF n (d:Int) (k:Int) k0=k0 (d':Int) (k':Int):=by
 intro d
 induction d using Nat.strongRecOn with
 | _ d ih=>
  intro n k hd hn hk
  obtain ⟨n,rfl⟩:∃ m,n=m+1:=⟨n-1,by omega⟩
  rw [Cm]
  by_cases h:455<d
  ·obtain ⟨d',k',h1,h2,h3,h4⟩:=ih (d / 35) (by omega) n (k+36) (by omega) (by omega) (by omega)
   refine ⟨d',k',h1,by omega,by rw [OL h];exact h3,?_⟩
   have e:Int.tdiv (d:Int) 35=((d / 35:Nat):Int):=Y6 d 35
   have e1:A4 ((d / 35:Nat):Int)=((d / 35:Nat):Int):=A8
   have e2:A4 ((k:Int)+36)=((k+36:Nat):Int):=by rw [A8];rfl
   rw [B4]
   simp only [cond_true,vl,e,e1,e2]
   exact h4
  ·refine ⟨d,k,by omega,by omega,Yw h,?_⟩
   rw [A6]
   rfl
theorem SC {R:Type} {k0:Int->Option R} (d c:Int) (f:Bool) (h0:ltN d 1152921504606846976=true) (h1:ltN c 1000000=true) (h2:ltI 0 c=true):BK LF d c f k0=k0 (Cr d.toNat c.toNat f:Nat):=by
 obtain ⟨hd0,hd1⟩:=D2.1 h0
 obtain ⟨hc0,hc1⟩:=D2.1 h1
 obtain ⟨d,rfl⟩:=Int.eq_ofNat_of_zero_le hd0
 obtain ⟨c,rfl⟩:=Int.eq_ofNat_of_zero_le hc0
 have hc:=Le.1 h2
 have hLF:=F6
 have key:∀ x:Nat,x<1152921504606846976->Cl LF (x:Int) (c:Int) k0=k0 ((Yv (x+x / c) 0:Nat):Int):=by
  intro x hx
  have hxc:x / c<=x:=Nat.div_le_self _ _
  unfold Cl
  have e1:Int.tdiv (x:Int) (c:Int)=((x / c:Nat):Int):=Y6 x c
  generalize x / c=q at *
  have e2:A4 (q:Int)=(q:Int):=A8
  have e3:A4 ((x:Int)+(q:Int))=((x+q:Nat):Int):=by rw [A8];rfl
  rw [show ((c:Int) != 0)=true by simp;omega]
  simp only [cond_true,vl,e1,e2,e3]
  obtain ⟨d',k',g1,g2,g3,g4⟩:=RZ (R:=R) (k0:=λdelta'7 k'8=>vl (A4 ((36)*delta'7)) λn'9=>vl (A4 (delta'7+(38))) λn'10=>cond (n'10 != (0)) (vl (A4 (Int.tdiv n'9 n'10)) λn'11=>k0 (A4 (k'8+n'11))) none) (x+q) LF 0 (by omega) (by omega) (by omega)
  refine Eq.trans g4 ?_
  have hq:36*d' / (d'+38)<=36*d':=Nat.div_le_self _ _
  have f1:A4 (36*(d':Int))=((36*d':Nat):Int):=by rw [A8];rfl
  have f2:A4 ((d':Int)+38)=((d'+38:Nat):Int):=by rw [A8];rfl
  have f3:Int.tdiv ((36*d':Nat):Int) ((d'+38:Nat):Int)=((36*d' / (d'+38):Nat):Int):=Y6 _ _
  have f4:A4 ((36*d' / (d'+38):Nat):Int)=((36*d' / (d'+38):Nat):Int):=A8
  have f5:A4 ((k':Int)+((36*d' / (d'+38):Nat):Int))=((k'+36*d' / (d'+38):Nat):Int):=by rw [A8];rfl
  simp only [vl,f1,f2,f3,f4,f5]
  rw [show (((d'+38:Nat):Int) != 0)=true by simp;omega,g3]
  rfl
 unfold BK Cr
 rw [Int.toNat_natCast,Int.toNat_natCast]
 cases f with
 | true=>
  have e1:Int.tdiv (d:Int) 700=((d / 700:Nat):Int):=Y6 d 700
  have e2:A4 ((d / 700:Nat):Int)=((d / 700:Nat):Int):=A8
  simp only [cond_true,vl,e1,e2,if_true]
  exact key _ (by omega)
 | false=>
  have e1:Int.tdiv (d:Int) 2=((d / 2:Nat):Int):=Y6 d 2
  have e2:A4 ((d / 2:Nat):Int)=((d / 2:Nat):Int):=A8
  simp only [cond_false,vl,e1,e2,Bool.false_eq_true,if_false]
  exact key _ (by omega)
theorem Ar6 {d:Nat} (h:d<36):(Jf d).toNat=if d<26 then 97+d else 22+d:=by
 unfold Jf
 split<;>simp<;>omega
theorem Az1 {R:Type} {k0:Int->Option R} (d:Int) (h0:ltN d 36=true):Bz8 LF d k0=k0 ((Jf d.toNat).toNat:Nat):=by
 obtain ⟨hd0,hd1⟩:=D2.1 h0
 obtain ⟨d,rfl⟩:=Int.eq_ofNat_of_zero_le hd0
 unfold Bz8
 rw [Int.toNat_natCast,Ar6 (by omega)]
 by_cases h:d<26
 ·rw [B4,if_pos h]
  simp only [cond_true,vl]
  congr 1
  rw [A8,W8]
  rfl
 ·rw [A6,if_neg h]
  simp only [cond_false,vl]
  congr 1
  rw [M4 (n:=48+(d:Int)) (by omega) (by omega),A8,W8]
  omega
theorem TY (b:UInt8):(97<=b.toNat/\b.toNat<=122/\Ig b=some (b.toNat-97))\/(65<=b.toNat/\b.toNat<=90/\Ig b=some (b.toNat-65))\/(48<=b.toNat/\b.toNat<=57/\Ig b=some (b.toNat-22))\/(¬(97<=b.toNat/\b.toNat<=122)/\¬(65<=b.toNat/\b.toNat<=90)/\¬(48<=b.toNat/\b.toNat<=57)/\Ig b=none):=by
 unfold Ig
 grind
theorem Az8 {R:Type} {k0:Int->Option R} (b:Int) (h0:inR b 256=true):Bh1 LF b k0=k0 (H8 (u8n b)):=by
 simp only [inR,Bool.and_eq_true,decide_eq_true_eq] at h0
 have hc:b=((u8n b).toNat:Int):=by
  unfold u8n
  simp
  omega
 generalize u8n b=c at *
 subst hc
 have hbt:=c.toNat_lt
 unfold Bh1 H8
 simp only [Pw,Pv,vl]
 rcases TY c with ⟨h1,h2,e⟩ | ⟨h1,h2,e⟩ | ⟨h1,h2,e⟩ | ⟨h1,h2,h3,e⟩
 ·have e2:A4 (wu8 ((c.toNat:Int)-97))=((c.toNat-97:Nat):Int):=by
   rw [W8,A8];omega
  simp (disch:=omega) only [D8,I3,Bool.not_true,Bool.not_false,cond_false,cond_true,e2,e]
 ·have e2:A4 (wu8 ((c.toNat:Int)-65))=((c.toNat-65:Nat):Int):=by
   rw [W8,A8];omega
  simp (disch:=omega) only [D8,I3,Bool.not_true,Bool.not_false,cond_false,cond_true,e2,e]
 ·have e2:A4 (A4 (wu8 ((c.toNat:Int)-48))+26)=((c.toNat-22:Nat):Int):=by
   rw [W8,M4 (n:=(c.toNat:Int)-48) (by omega) (by omega),A8];omega
  simp (disch:=omega) only [D8,I3,Bool.not_true,Bool.not_false,cond_false,cond_true,e2,e]
 ·rw [e]
  by_cases c1:c.toNat<48
  ·simp (disch:=omega) only [D8,I3,Bool.not_true,Bool.not_false,cond_false,cond_true]
  ·by_cases c2:c.toNat<65
   ·simp (disch:=omega) only [D8,I3,Bool.not_true,Bool.not_false,cond_false,cond_true]
   ·by_cases c3:c.toNat<97
    ·simp (disch:=omega) only [D8,I3,Bool.not_true,Bool.not_false,cond_false,cond_true]
    ·simp (disch:=omega) only [D8,I3,Bool.not_true,Bool.not_false,cond_false,cond_true]
theorem B27 {l:LL} (h:l.all Pe=true):∃ W:List Nat,l=E7 W/\(∀ x∈W,x<65536):=by
 induction l with
 | nil=>exact ⟨[],rfl,by simp⟩
 | cons x r ih=>
  simp only [List.all_cons,Bool.and_eq_true] at h
  obtain ⟨W,rfl,hW⟩:=ih h.2
  have hx:=h.1
  unfold Pe at hx
  split at hx
  ·rename_i n
   obtain ⟨h0,h1⟩:=D2.1 hx
   obtain ⟨m,rfl⟩:=Int.eq_ofNat_of_zero_le h0
   refine ⟨m::W,rfl,?_⟩
   grind
  ·cases hx
theorem NA {W:List Nat} (h:∀ x∈W,x<65536):(E7 W).all Pe=true:=by
 rw [List.all_eq_true]
 intro x hx
 simp only [E7,List.mem_map] at hx
 obtain ⟨n,hn,rfl⟩:=hx
 have:=h n hn
 exact Vb (v:=(n:Int)) (n:=65536) (by omega) (by omega)
theorem Om (W:List Nat):(E7 W).map elN=W:=by
 unfold E7
 rw [List.map_map]
 conv=>rhs;rw [<-List.map_id W]
 apply List.map_congr_left
 intro x _
 simp [elN,SV.gI]
theorem Jg (l:List By):(C5 l).map elS=l:=by
 unfold C5
 rw [List.map_map]
 conv=>rhs;rw [<-List.map_id l]
 apply List.map_congr_left
 intro x _
 simp [elS,SV.gS]
theorem Bj0 (l:List By):(C5 l).all isS=true:=by
 rw [List.all_eq_true]
 intro x hx
 simp only [C5,List.mem_map] at hx
 obtain ⟨n,hn,rfl⟩:=hx
 rfl
theorem Bi3 {P:List Nat->Prop} (h0:P []) (h1:∀ l x,P l->P (l++[x])) (l:List Nat):P l:=by
 have:∀ r:List Nat,P r.reverse:=by
  intro r
  induction r with
  | nil=>exact h0
  | cons x r ih=>rw [List.reverse_cons];exact h1 _ _ ih
 have:=this l.reverse
 grind
theorem Av6 (l:List By) (x p:By) (h:l≠[]):Lib.join (l++[x]) p=Lib.join l p++p++x:=by
 cases l with
 | nil=>exact absurd rfl h
 | cons y r=>
  rw [List.cons_append,Lib.join_cons,Lib.join_cons]
  unfold Lib.joinTail
  simp
theorem Av3:Ay []=[]:=rfl
theorem Av4 (n:Nat):Ay [n]=X6 n:=by unfold Ay;exact Lib.join_one _ _
theorem YM (l:List Nat) (n:Nat) (h:l≠[]):Ay (l++[n])=Ay l++[58]++X6 n:=by
 unfold Ay
 rw [List.map_append,List.map_singleton,Av6 _ _ _ (by simpa using h)]
theorem Ci:∀ l:List Nat,(∀ x∈l,x<65536)->(Ay l).length<=5*l.length:=by
 refine Bi3 ?_ ?_
 ·intro _;simp [Av3]
 ·intro l n ih h
  have h1:=ih (λx hx=>h x (by simp [hx]))
  have h2:=QK n (h n (by simp))
  by_cases hl:l=[]
  ·subst hl;rw [List.nil_append,Av4];simp;omega
  ·rw [YM l n hl];simp;omega
theorem Bl7 {R:Type} {k0:LL->Option R} (z t:Bool) (W:List Nat) (hW:∀ x∈W,x<65536) (hl:W.length<=8):∀ (r i n:Nat) (d:List By),i+r=W.length->r<n->d.length=i->
  Ns LF n z t (E7 W) (W.length:Int) (i:Int) (C5 d) k0=k0 (C5 (d++(W.drop i).map X6)):=by
 intro r
 induction r with
 | zero=>
  intro i n d hi hn hd
  obtain ⟨n,rfl⟩:∃ m,n=m+1:=⟨n-1,by omega⟩
  rw [Ns]
  rw [A6,List.drop_of_length_le (by omega)]
  simp
 | succ r ih=>
  intro i n d hi hn hd
  obtain ⟨n,rfl⟩:∃ m,n=m+1:=⟨n-1,by omega⟩
  rw [Ns]
  have hdr:W.drop i=W.getD i 0::W.drop (i+1):=by
   rw [List.getD_eq_getElem?_getD,List.getElem?_eq_getElem (by omega),Option.getD_some,List.getElem_cons_drop]
  have hb:W.getD i 0<65536:=by
   rw [List.getD_eq_getElem?_getD,List.getElem?_eq_getElem (by omega),Option.getD_some]
   simp_all
  have e2:A4 ((i:Int)+1)=((i+1:Nat):Int):=by rw [A8];rfl
  rw [hdr]
  generalize hg:W.getD i 0=x at *
  simp (disch:=omega) only [D8,O6,cond_true,M0,Int.toNat_natCast,An3,Bb2,vl,e2,hg,NJ,Vb,E1,I9,show ((16:Int)==16)=true from rfl]
  have hrow:C5 d++[[SV.str (X6 x)]]=C5 (d++[X6 x]):=by rw [TN];rfl
  rw [hrow,ih (i+1) n _ (by omega) (by omega) (by simp;omega)]
  simp
theorem Bl8 {R:Type} {k0:By->LL->Option R} (z t:Bool) (l:LL) (h0:l.all Pe=true) (h1:Nat.ble l.length 8=true):∃ l',v6j LF z t l k0=k0 (Ay (l.map elN)) l':=by
 obtain ⟨W,rfl,hW⟩:=B27 h0
 have hl:W.length<=8:=by rw [M0] at h1;exact Nat.le_of_ble_eq_true h1
 have hLF:=F6
 refine ⟨C5 (W.map X6),?_⟩
 unfold v6j
 rw [M0]
 refine Eq.trans (Bl7 z t W hW hl W.length 0 LF [] (by omega) (by omega) rfl) ?_
 have hj:=Ci W hW
 unfold Ay at hj
 rw [List.nil_append,List.drop_zero,Bj0,Jg,Om,E1,G2,E2 (by simp;omega)]
 rfl
theorem Ah4:∀ (l:List Nat) (i z m:Nat),z+m<=i+l.length->(zGo l i z m).1+(zGo l i z m).2<=i+l.length
 | [],i,z,m,h=>by simpa [zGo] using h
 | x::r,i,z,m,h=>by
  have hr:=Ao1 (x::r)
  simp only [zGo]
  simp only [List.length_cons] at h hr ⊢
  split
  ·have:=Ah4 r (i+1) i (To (x::r)) (by omega);omega
  ·have:=Ah4 r (i+1) z m (by omega);omega
theorem Bl6 {R:Type} {k0:By->LL->Option R} (a0 a1 a2 a3 a4 a5 a6 a7:Int) (h0:ok8 a0 a1 a2 a3 a4 a5 a6 a7=true):∃ l,v6f LF a0 a1 a2 a3 a4 a5 a6 a7 k0=k0 (Vt (n8 a0 a1 a2 a3 a4 a5 a6 a7)) l:=by
 obtain ⟨b0,b1,b2,b3,b4,b5,b6,b7,rfl,rfl,rfl,rfl,rfl,rfl,rfl,rfl,h⟩:=Pr h0
 have hn8:n8 b0 b1 b2 b3 b4 b5 b6 b7=[b0,b1,b2,b3,b4,b5,b6,b7]:=rfl
 refine ⟨E7 [b0,b1,b2,b3,b4,b5,b6,b7],?_⟩
 unfold v6f
 rw [h0,hn8,cond_true]
 have hrow:([[SV.int .u16 (b0:Int)],[SV.int .u16 (b1:Int)],[SV.int .u16 (b2:Int)],[SV.int .u16 (b3:Int)],[SV.int .u16 (b4:Int)],[SV.int .u16 (b5:Int)],[SV.int .u16 (b6:Int)],[SV.int .u16 (b7:Int)]]:LL)=E7 [b0,b1,b2,b3,b4,b5,b6,b7]:=rfl
 rw [hrow]
 have hW:∀ x∈[b0,b1,b2,b3,b4,b5,b6,b7],x<65536:=by simp_all
 have hlen:[b0,b1,b2,b3,b4,b5,b6,b7].length=8:=rfl
 have hbd:=Ah4 [b0,b1,b2,b3,b4,b5,b6,b7] 0 0 0 (by simp)
 unfold Vt
 generalize [b0,b1,b2,b3,b4,b5,b6,b7]=W at *
 generalize zGo W 0 0 0=q at *
 obtain ⟨z,m⟩:=q
 rw [hlen] at hbd
 simp only [vl] at hbd ⊢
 have tk:∀ i,(E7 W).take i=E7 (W.take i):=λi=>by unfold E7;rw [List.map_take]
 have dr:∀ i,(E7 W).drop i=E7 (W.drop i):=λi=>by unfold E7;rw [List.map_drop]
 by_cases hm:m<2
 ·rw [if_pos hm,B4,cond_true,NA hW,Om]
  rfl
 ·have e1:A4 ((z:Int)+(m:Int))=((z+m:Nat):Int):=by rw [A8];rfl
  have hA:∀ x∈W.take z,x<65536:=λx hx=>hW x (List.mem_of_mem_take hx)
  have hB:∀ x∈W.drop (z+m),x<65536:=λx hx=>hW x (List.mem_of_mem_drop hx)
  have la:=Ci _ hA
  have lb:=Ci _ hB
  have l1:(W.take z).length<=8:=by rw [List.length_take];omega
  have l2:(W.drop (z+m)).length<=8:=by rw [List.length_drop];omega
  rw [if_neg hm,A6,cond_false,M7,e1]
  simp only [Int.toNat_natCast,Nat.sub_zero]
  rw [tk,dr,NA hA,Om,M0,Nat.ble_eq_true_of_le l1,O8 (by omega),M7]
  have tk2:(E7 (W.drop (z+m))).take (8-(z+m))=E7 (W.drop (z+m)):=List.take_of_length_le (by rw [M0,List.length_drop];omega)
  rw [tk2,NA hB,Om,M0,Nat.ble_eq_true_of_le l2,O8 (by simp;omega)]
  simp
end
section
open Go
theorem Hf (x y:By) (r:List By) (p:By):Lib.join (x::y::r) p=x++(p++Lib.join (y::r) p):=by
 simp [Lib.join,List.intercalate]
theorem BN (c:UInt8):∀ l:List By,l≠[]->(∀ x∈l,c∉x)->pcs c (Lib.join l [c])=l
 | [],h,_=>absurd rfl h
 | [x],_,h=>by rw [Lib.join_one,Jy (h x (by simp))]
 | x::y::r,_,h=>by
  rw [Hf,List.singleton_append,Wy (h x (by simp)),BN c (y::r) (by simp) (λz hz=>h z (by simp [hz]))]
theorem QY (c:UInt8):∀ (n:Nat) (s:By),s.length<=n->Lib.join (pcs c s) [c]=s
 | n,s,hn=>by
  rcases R6 c s with h | ⟨p,r,rfl,h⟩
  ·rw [Jy h,Lib.join_one]
  ·rw [Wy h]
   cases n with
   | zero=>simp at hn
   | succ n=>
    have ih:=QY c n r (by simp at hn;omega)
    cases hp:pcs c r with
    | nil=>exact absurd hp (MB c r)
    | cons y q=>
     rw [Hf,<-hp,ih]
     rfl
theorem Av5 (c:UInt8) (s:By):Lib.join (pcs c s) [c]=s:=QY c _ s (Nat.le_refl _)
theorem Am2 (b:UInt8):X1 b=46↔b=46:=by
 rcases P2 b with ⟨h,e⟩ | ⟨h,e⟩ | ⟨h,h2,e⟩
 ·rw [e]
 ·rw [e]
 ·constructor
  ·intro h3;rw [h3] at e;simp at e;omega
  ·intro h3;subst h3;simp at h
theorem Aw6 (a b:By):C0 (a++b)=C0 a++C0 b:=List.map_append
theorem Aa (s:By):(C0 s).length=s.length:=List.length_map _
theorem Fl:∀ (s acc:By),K8 46 (C0 acc) (C0 s)=(K8 46 acc s).map C0
 | [],acc=>rfl
 | b::r,acc=>by
  show (if X1 b=46 then _ else _)=_
  simp only [K8]
  by_cases h:b=46
  ·rw [if_pos ((Am2 b).2 h),if_pos h,List.map_cons]
   have:=Fl r []
   rw [<-this]
   rfl
  ·rw [if_neg (λe=>h ((Am2 b).1 e)),if_neg h,<-Fl r (acc++[b]),Aw6]
   rfl
theorem Ay8 (s:By):pcs 46 (C0 s)=(pcs 46 s).map C0:=Fl s []
theorem Hh (s:By) (i:Nat):(C0 s).getD i 0=X1 (s.getD i 0):=by
 unfold C0
 simp only [List.getD_eq_getElem?_getD,List.getElem?_map]
 cases s[i]?<;>rfl
theorem FL {s:By}:C0 s=[]↔s=[]:=by unfold C0;simp
theorem KQ (l:List By):(l.map C0).getLastD []=C0 (l.getLastD []):=by
 rw [List.getLastD_eq_getLast?,List.getLastD_eq_getLast?,List.getLast?_map]
 cases l.getLast?<;>rfl
theorem Cd8 (s:By):D1 (C0 s)=(D1 s).map C0:=by
 unfold D1
 rw [Ay8,KQ]
 simp only [List.length_map,FL]
 grind
theorem ZB (s:By) (i:Nat):(C0 s).drop i=C0 (s.drop i):=by unfold C0;rw [List.map_drop]
theorem Uz (b:UInt8):U7 b=true↔(97<=b.toNat/\b.toNat<=122)\/(48<=b.toNat/\b.toNat<=57)\/b=45\/b=95:=by
 simp [U7,or_assoc]
theorem YU {b:UInt8} (h:U7 b=true):b.toNat<128/\(b.toNat<65\/90<b.toNat)/\b≠46/\b≠37/\b≠91:=by
 rw [Uz] at h
 have key:∀ c:UInt8,b=c->b.toNat=c.toNat:=λc e=>by rw [e]
 rcases h with h | h | h | h
 ·refine ⟨by omega,by omega,?_,?_,?_⟩<;>intro e<;>have:=key _ e<;>simp at this<;>omega
 ·refine ⟨by omega,by omega,?_,?_,?_⟩<;>intro e<;>have:=key _ e<;>simp at this<;>omega
 all_goals simp_all
structure VL (s:By):Prop where
 ne:s≠[]
 le:s.length<=63
 byt:∀ b∈s,U7 b=true
theorem Lp {s:By} (h:N8 s=true):VL s:=by
 unfold N8 at h
 simp only [Bool.and_eq_true,Bool.not_eq_true',List.all_eq_true] at h
 obtain ⟨⟨⟨⟨⟨h1,h2⟩,h3⟩,h4⟩,h5⟩,h6⟩:=h
 refine ⟨by intro e;subst e;simp at h1,Nat.le_of_ble_eq_true h2,λb hb=>h5 b hb⟩
structure VN (s:By):Prop where
 le:s.length<=253
 num:K5 s=false
 all:∀ x∈pcs 46 s,N8 x=true
theorem Nt {s:By}:V5 s=true↔VN s:=by
 unfold V5
 simp only [Bool.and_eq_true,Bool.not_eq_true',List.all_eq_true]
 exact ⟨λh=>⟨Nat.le_of_ble_eq_true h.1.1,h.1.2,h.2⟩,λh=>⟨⟨Nat.ble_eq_true_of_le h.le,h.num⟩,h.all⟩⟩
theorem Vh {s:By} (h:∀ x∈pcs 46 s,x≠[]):D1 s=pcs 46 s:=by
 unfold D1
 grind
theorem VN.pne {s:By} (h:VN s):∀ x∈pcs 46 s,x≠[]:=λx hx=>(Lp (h.all x hx)).ne
theorem VN.super {s x y:By} {r:List By} (h:VN s) (hp:pcs 46 s=x::y::r):s=x++46::Lib.join (y::r) [46]/\VN (Lib.join (y::r) [46])/\pcs 46 (Lib.join (y::r) [46])=y::r:=by
 have hs:=Av5 46 s
 rw [hp,Hf] at hs
 have hpc:pcs 46 (Lib.join (y::r) [46])=y::r:=BN 46 _ (by simp) (λz hz=>(Ep (s:=s) (by rw [hp];simp [hz])).1)
 have hall:∀ z∈y::r,N8 z=true:=λz hz=>h.all z (by rw [hp];exact List.mem_cons_of_mem _ hz)
 refine ⟨hs.symm,⟨?_,?_,by rw [hpc];exact hall⟩,hpc⟩
 ·have:=congrArg List.length hs
  have:=h.le
  grind
 ·have h1:=h.num
  unfold K5 at h1 ⊢
  have e:Dk (Lib.join (y::r) [46])=Dk s:=by
   unfold Dk
   rw [Vh h.pne,Vh (by rw [hpc];exact λz hz=>(Lp (hall z hz)).ne),hpc,hp]
   rfl
  grind
theorem Cf4 (v:Nat) (h:v<4294967296):(Kk v).length<=43:=by
 unfold Kk
 have h1:=F4 (v / 16777216) (by omega)
 have h2:=F4 (v / 65536 % 256) (by omega)
 have h3:=F4 (v / 256 % 256) (by omega)
 have h4:=F4 (v % 256) (by omega)
 grind
theorem SK (free:Nat):∀ (l:List By) (v x:Nat),BQ free v l=some x->x<(v+1)*256 ^ (l.length-1)*2 ^ free
 | [],v,x,h=>by simp [BQ] at h
 | [p],v,x,h=>by
  simp only [BQ] at h
  split at h
  ·cases h
  ·split at h
   ·rename_i n hn hlt
    simp only [Option.some.injEq] at h
    subst h
    simp only [List.length_cons,List.length_nil,Nat.sub_self,Nat.pow_zero,Nat.mul_one,Nat.add_mul]
    omega
   ·cases h
 | p::q::r,v,x,h=>by
  rw [BQ] at h
  split at h
  ·cases h
  ·simp only at h
   split at h
   ·rename_i n hn hle
    have ih:=SK free (q::r) _ x h
    refine Nat.lt_of_lt_of_le ih (Nat.mul_le_mul_right _ ?_)
    simp only [List.length_cons,Nat.add_sub_cancel]
    rw [Nat.pow_succ,Nat.mul_comm (256 ^ r.length) 256,<-Nat.mul_assoc]
    exact Nat.mul_le_mul_right _ (by omega)
   ·cases h
theorem B02 {s:By} {v:Nat} (h:pnB s=some v):v<4294967296:=by
 unfold pnB at h
 split at h
 ·cases h
 ·rename_i h4
  have h1:=(Dp s).1
  have:=SK _ _ _ _ h
  generalize (D1 s).length=n at *
  have:n=1\/n=2\/n=3\/n=4:=by omega
  grind
def sh (n:Nat) (i:Int):Int:=if i = -1 then -1 else i+n
theorem Bl5 (a:List Nat) (h8:a.length=8) (h:∀ x∈a,x<65536):(Vt a).length<=90:=by
 unfold Vt
 split
 ·have:=Ci a h
  omega
 ·have h1:=Ci (a.take (zGo a 0 0 0).1) (λx hx=>h x (List.mem_of_mem_take hx))
  have h2:=Ci (a.drop ((zGo a 0 0 0).1+(zGo a 0 0 0).2)) (λx hx=>h x (List.mem_of_mem_drop hx))
  grind
theorem QE {s:By} {last:Bool} {r:List Nat} (h:Aw s last=some r):∀ x∈r,x<65536:=by
 unfold Aw at h
 split at h
 ·grind
 ·exact Ak8 _ _ _ h
theorem Cf7 {s:By} {a:List Nat} (h:v6B s=some a):a.length=8/\∀ x∈a,x<65536:=by
 unfold v6B at h
 split at h
 ·rename_i x y hx hy
  have h1:=QE hx
  have h2:=QE hy
  grind
 ·cases h
theorem Bj8 {s:By} (h:(O7 s).2=0):N8 (O7 s).1=true:=by
 unfold O7 at h ⊢
 grind
theorem Rx:∀ l:List By,(I7 l).2=0->(∀ x∈(I7 l).1,N8 x=true)/\(I7 l).1.length=l.length
 | [],_=>⟨by simp [I7],rfl⟩
 | x::r,h=>by
  unfold I7 at h ⊢
  by_cases hx:(O7 x).2=0
  ·rw [if_pos hx] at h ⊢
   obtain ⟨h1,h2⟩:=Rx r h
   refine ⟨λy hy=>?_,by simp [h2]⟩
   rcases List.mem_cons.1 hy with rfl | hy
   ·exact Bj8 hx
   grind
  grind
structure Ik (h:B3):Prop where
 v4:h.v4<4294967296
 v6:h.v6.length=8/\∀ x∈h.v6,x<65536
 kd:h.kind<4
theorem Aq1:z8.length=8/\∀ x∈z8,x<65536:=by decide
theorem Ay3 (s:By):Ik (F9 s).1/\((F9 s).2=0->L1 (F9 s).1=true):=by
 have no:Ik K7:=⟨by decide,Aq1,by decide⟩
 unfold F9
 split
 ·grind
 split
 ·split
  ·cases hv:v6B ((s.take (s.length-1)).drop 1) with
   | none=>exact ⟨no,by simp⟩
   | some a=>exact ⟨⟨show 0<4294967296 by decide,Cf7 hv,show 3<4 by decide⟩,λ_=>by simp [L1]⟩
  grind
 cases hp:Y1 s with
 | none=>exact ⟨no,by simp⟩
 | some t=>
  simp only
  split
  ·cases hv:pnB (L0 t) with
   | none=>exact ⟨no,by simp⟩
   | some v=>exact ⟨⟨B02 hv,Aq1,show 2<4 by decide⟩,λ_=>by simp [L1]⟩
  split
  ·rename_i h0
   split
   ·grind
   split
   ·grind
   ·rename_i h1 h2
    refine ⟨⟨show 0<4294967296 by decide,Aq1,show 1<4 by decide⟩,λ_=>?_⟩
    obtain ⟨h3,h4⟩:=Rx _ h0
    have hne:(I7 (pcs 46 (L0 t))).1≠[]:=by
     intro e
     rw [e] at h4
     have:=MB 46 (L0 t)
     grind
    have hpc:=BN 46 (I7 (pcs 46 (L0 t))).1 hne (λx hx e=>(YU ((Lp (h3 x hx)).byt 46 e)).2.2.1 rfl)
    unfold L1
    simp only [if_true,beq_self_eq_true,Bool.and_true]
    rw [Nt]
    exact ⟨by omega,by simpa using h2,by rw [hpc];exact h3⟩
  grind
theorem AG {h:B3} (hv:L1 h=false):Ih h=[]:=by unfold Ih;rw [hv];rfl
end
end Go.Proofs.YthcoijldbdfboaaGreatDoor.E
