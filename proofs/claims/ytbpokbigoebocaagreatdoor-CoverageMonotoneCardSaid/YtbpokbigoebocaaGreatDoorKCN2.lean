/-
  Parts of the proof, merged by a program of the prover's own; no condition.
-/
import Derived.Test.YtbpokbigoebocaaGreatDoorKCN1
import Derived.Lib.SlBytesConst
import Derived.Sort.QuietThIn
import Derived.TacticsIn
namespace Go.Proofs.YtbpokbigoebocaaGreatDoor.E
set_option linter.all false
section
open Go
section
variable {Γ : Ctx} {H : List Blk} {w : World} {R : Type} {r : R} {C : Cfg}
def Els (St:Nat->Prop) (w:World) (n:Nat) (els:List (List SV)) (Vs:List Value):Prop:=
 Vs.length=els.length*n/\∀ i (h:i<els.length),(els[i]).length=n/\∀ j (h':j<(els[i]).length),∃ U,Vs[i*n+j]? = some U/\VS St w (els[i][j]) U
theorem Gp.toEls {P:Program} {n:Nat} {X:Value} {news:List (List SV)} {Vs:List Value} (h:Gp P Γ w n X news Vs):Els Γ.St w n news Vs:=⟨h.size,h.els⟩
theorem Els.append {St:Nat->Prop} {n:Nat} {a b:List (List SV)} {A B:List Value} (ha:Els St w n a A) (hb:Els St w n b B):Els St w n (a++b) (A++B):=by
 refine ⟨by rw [List.length_append,List.length_append,ha.1,hb.1,Nat.add_mul],λi hi=>?_⟩
 rw [List.length_append] at hi
 by_cases h:i<a.length
 ·have e:(a++b)[i]'(by rw [List.length_append];exact hi)=a[i]:=List.getElem_append_left h
  refine ⟨by rw [e];exact (ha.2 i h).1,λj hj=>?_⟩
  have hj':j<(a[i]).length:=by rw [<-e];exact hj
  obtain ⟨U,e1,k⟩:=(ha.2 i h).2 j hj'
  grind
 ·have h':i-a.length<b.length:=by omega
  have e:(a++b)[i]'(by rw [List.length_append];exact hi)=b[i-a.length]:=List.getElem_append_right (by omega)
  refine ⟨by rw [e];exact (hb.2 _ h').1,λj hj=>?_⟩
  have hj':j<(b[i-a.length]).length:=by rw [<-e];exact hj
  obtain ⟨U,e1,k⟩:=(hb.2 _ h').2 j hj'
  refine ⟨U,?_,by simp only [e];exact k⟩
  have hle:a.length*n<=i*n:=Nat.mul_le_mul_right _ (by omega)
  rw [List.getElem?_append_right (by rw [ha.1];omega),ha.1,<-e1]
  congr 1
  rw [Nat.sub_mul];omega
theorem Els.mono {St St':Nat->Prop} {w':World} {n:Nat} {els:List (List SV)} {Vs:List Value} (h:Els St w n els Vs) (hs:∀ g,St g->w'.heap[g]? = w.heap[g]?) (hsub:∀ g,St g->St' g):Els St' w' n els Vs:=
 ⟨h.1,λi hi=>⟨(h.2 i hi).1,λj hj=>by obtain ⟨U,e,k⟩:=(h.2 i hi).2 j hj;exact ⟨U,e,k.mono hs hsub⟩⟩⟩
theorem BR.els {Γ':Ctx} {sh:Nat->Option Shp} {w':World} {b g e n:Nat} {v:Bool} {els:List (List SV)} {Vs:List Value} {cur:Array Value} (hg:Γ'.nm b=some g) (hh:w'.heap[g]? = some (.cells cur e (0,0))) (hE:Els Γ'.St w' n els Vs) (hne:¬ (v=true/\els=[]))
  (hc:∀ q,q<Vs.length->cur[q]? = Vs[q]?) (hl:Vs.length<=cur.size):BR Γ' sh w' b (.arr v e n els):=by
 refine .inr ⟨hne,g,cur,hg,hh,by rw [<-hE.1];exact hl,λi hi=>(hE.2 i hi).1,λi hi j hj=>?_⟩
 obtain ⟨U,e1,k⟩:=(hE.2 i hi).2 j hj
 exact ⟨U,by rw [hc _ (List.getElem?_eq_some_iff.1 e1).1];exact e1,k⟩
theorem Qr {n m bytes:Nat} (h:n+m<=68719476736) (hb:bytes<=512):(n+m)*bytes<=140737488355328:=by
 have:(n+m)*bytes<=68719476736*512:=Nat.mul_le_mul h hb
 omega
theorem T3 {need cap e:Nat} (h:need<=68719476736):need<=grownCap w need cap e/\grownCap w need cap e<=maxLen:=
 ⟨grownCap_ge _ _ _ _,grownCap_le_maxLen _ _ _ _ (by simp only [maxLen];omega)⟩
theorem Pp {olds Vs:List Value} {z:Array Value} {k n m size:Nat} (hz:z.size=size) (ho:olds.length=n*size) (hV:Vs.length=m*size) (hk:n+m<=k) :
  (olds.toArray++Vs.toArray++Builtin.zeroCells z (k-(n+m))).size=k*size/\(∀ q,q<(olds++Vs).length->(olds.toArray++Vs.toArray++Builtin.zeroCells z (k-(n+m)))[q]? = (olds++Vs)[q]?):=by
 refine ⟨?_,λq hq=>?_⟩
 ·simp only [Array.size_append,List.size_toArray,size_zeroCells,hz,ho,hV,<-Nat.add_mul]
  congr 1;omega
 ·rw [Array.getElem?_append_left (by simpa using hq)]
  simp
theorem Bp6 {z:Bool} {kk:Nat} {els:List (List SV)} {S:Value} (h:VS Γ.St w (.sl z true kk els) S):∃ A,S = .slice A els.length els.length/\(z=true->A=none/\els=[])/\(z=false->A≠none)/\∀ i (h:i<els.length),(els[i]).length=kk:=by
 cases h with
 | nil=>exact ⟨none,rfl,λ_=>⟨rfl,rfl⟩,by simp,λi h=>by simp at h⟩
 | emp _ _ a cap ht hm=>
  simp_all
 | sl _ _ g off n cap sz Vs hn hcap hm ht hg hl hc hv=>
  simp_all
theorem Uz {t u ty e:Nat} {z:Bool} {els news:List (List SV)} {S X:Value} {A:Option Addr} {sl:List PV} {tmps:Array Value} (hH:HR Γ H w) (ht:C.P.underlying t=some (.slice e)) (hu:BE (C.sh u)=true) (hok:(C.ti e).ok=true)
  (hS:S = .slice A els.length els.length) (hSl:SlV Γ w S els) (hz:z=true->A=none/\els=[]) (hlens:∀ i (h:i<els.length),(els[i]).length=(C.ti e).ks.length) {Vs:List Value} (hX:Gp C.P Γ w (C.ti e).ks.length X news Vs)
  (hne:z=true\/news≠[]) (hr:els.length+news.length<=68719476736) :
  WV C Γ H w sl tmps (Builtin.append_ #[t,u] ty #[S,X]) (.fl H.length) sl (H++[.arr z e (C.ti e).ks.length (els++news)]):=by
 obtain ⟨ud,hu1,hu2⟩:=Mg hu
 obtain ⟨ie,dd,zv,hi,hd,hzv,hsz1,hby,hpos,hks,hagg,hlen⟩:=W4 hok
 subst hS
 by_cases hn:news=[]
 ·subst hn
  rcases hne with h | h
  ·obtain ⟨rfl,rfl⟩:=hz h
   subst h
   have hrun:=Q8 (P:=C.P) (w:=w) (ty:=ty) (n:=0) (cap:=0) (base:=none) ht hu1 hu2 hi (by rw [hlen];exact hX) (Nat.le_refl _) (w':=w) rfl
   exact ⟨_,w,Γ,hrun,HH hH,SW hH rfl (.inl ⟨rfl,rfl⟩),SR.grow (Mq _ hH),.flv _ e (C.ti e).ks.length (by rw [D4];rfl),by simp [PV.nms]⟩
  ·exact absurd rfl h
 ·have hm:0<news.length:=List.length_pos_iff.2 hn
  obtain ⟨olds,hO⟩:=Gp.slice (P:=C.P) hSl hlens
  have hot:olds.take (els.length*(C.ti e).ks.length)=olds:=List.take_of_length_le (by rw [hO.size];exact Nat.le_refl _)
  have hrun:=Ao (P:=C.P) (w:=w) (ty:=ty) (olds:=olds) ht hu1 hu2 hi hzv (by rw [hlen];exact hX) (λw' hw=>by have:=hO.first els.length (Nat.le_refl _) w' hw;rw [hot] at this;rw [hlen];exact this) (by omega) (by simp only [maxLen];omega) (Qr hr hby)
  obtain ⟨hge,hle⟩:=T3 (w:=w) (need:=els.length+news.length) (cap:=els.length) (e:=e) hr
  generalize grownCap w (els.length+news.length) els.length e=kc at hrun hge hle
  obtain ⟨r1,r2⟩:=Pp (z:=zv.cells) (by rw [<-hsz1,hlen]) hO.size hX.size hge
  generalize hrow:olds.toArray++Vs.toArray++Builtin.zeroCells zv.cells (kc-(els.length+news.length))=row at hrun r1 r2
  have hwh:(w.drew.alloc (.cells row e)).heap=w.heap.push (.cells row e):=rfl
  have hE:=(hO.toEls.append hX.toEls).mono (w':=w.drew.alloc (.cells row e)) (λg hg=>C6 hwh (hH.stlt g hg)) (λ_ h=>h)
  have hne':¬ (z=true/\els++news=[]):=by rintro ⟨_,h⟩;simp at h;exact hn h.2
  have hsize:(olds++Vs).length<=row.size:=by grind
  refine Z5 hH hrun hwh rfl rfl rfl (BR.els (g:=w.heap.size) (cur:=row) (by simp [Ctx.upd]) (C5 hwh) hE hne' r2 hsize) (by simp [Blk.nms]) ?_ (by simp [PV.nms])
  refine .fl H.length w.heap.size z e (C.ti e).ks.length (els.length+news.length) kc ?_ (λ_=>by omega) (by simp [Ctx.upd]) hge hle ?_
  ·rw [D4];simp [Blk.shp]
  ·simp only [World.shape?,C5 hwh,r1]
theorem OH {t u ty e b e' sz:Nat} {v:Bool} {els news:List (List SV)} {S X:Value} {sl:List PV} {tmps:Array Value} (hH:HR Γ H w) (ht:C.P.underlying t=some (.slice e)) (hu:BE (C.sh u)=true) (hok:(C.ti e).ok=true) (hb:H[b]? = some (.arr v e' sz els)) (hnf:Ag C e'=false)
  (hc:(v=true/\els=[])\/(e'=e/\sz=(C.ti e).ks.length)) (hS:VP Γ (A1 H) w (.fl b) S) {Vs:List Value} (hX:Gp C.P Γ w (C.ti e).ks.length X news Vs) (hr:els.length+news.length<=68719476736) :
  WV C Γ H w sl tmps (Builtin.append_ #[t,u] ty #[S,X]) (.fl b) (O2 b sl) ((H.map (Blk.kill b)).set b (.arr v e (C.ti e).ks.length (els++news))):=by
 obtain ⟨ud,hu1,hu2⟩:=Mg hu
 obtain ⟨ie,dd,zv,hi,hd,hzv,hsz1,hby,hpos,hks,hagg,hlen⟩:=W4 hok
 have hblt:=(List.getElem?_eq_some_iff.1 hb).1
 have hnf':¬ Cb C (A1 H b):=by
  simp only [A1,hb,Option.map_some,Blk.shp,Cb,hnf]
  simp
 have hbn:b<((H.map (Blk.kill b)).set b (.arr v e (C.ti e).ks.length (els++news))).length:=by simpa using hblt
 have grow:∀ (base:Option Addr) (cap:Nat),S = .slice base els.length cap->cap<els.length+news.length->SlV Γ w S els->(∀ i (h:i<els.length),(els[i]).length=(C.ti e).ks.length)->
   WV C Γ H w sl tmps (Builtin.append_ #[t,u] ty #[S,X]) (.fl b) (O2 b sl) ((H.map (Blk.kill b)).set b (.arr v e (C.ti e).ks.length (els++news))):=by
  intro base cap hSe hcap hSl hlens
  subst hSe
  obtain ⟨olds,hO⟩:=Gp.slice (P:=C.P) hSl hlens
  have hot:olds.take (els.length*(C.ti e).ks.length)=olds:=List.take_of_length_le (by rw [hO.size];exact Nat.le_refl _)
  have hrun:=Ao (P:=C.P) (w:=w) (ty:=ty) (olds:=olds) ht hu1 hu2 hi hzv (by rw [hlen];exact hX) (λw' hw=>by have:=hO.first els.length (Nat.le_refl _) w' hw;rw [hot] at this;rw [hlen];exact this) hcap (by simp only [maxLen];omega) (Qr hr hby)
  obtain ⟨hge,hle⟩:=T3 (w:=w) (need:=els.length+news.length) (cap:=cap) (e:=e) hr
  generalize grownCap w (els.length+news.length) cap e=kc at hrun hge hle
  obtain ⟨r1,r2⟩:=Pp (z:=zv.cells) (by rw [<-hsz1,hlen]) hO.size hX.size hge
  generalize hrow:olds.toArray++Vs.toArray++Builtin.zeroCells zv.cells (kc-(els.length+news.length))=row at hrun r1 r2
  have hwh:(w.drew.alloc (.cells row e)).heap=w.heap.push (.cells row e):=rfl
  have hstw:∀ g,Γ.St g->(w.drew.alloc (.cells row e)).heap[g]? = w.heap[g]?:=λg hg=>C6 hwh (hH.stlt g hg)
  have hE:=(hO.toEls.append hX.toEls).mono (w':=w.drew.alloc (.cells row e)) hstw (λ_ h=>h)
  have hcl:0<els.length+news.length:=by omega
  have hne':¬ (v=true/\els++news=[]):=by rintro ⟨_,h⟩;have:=congrArg List.length h;simp at this;simp [this] at hcl
  have hsize:(olds++Vs).length<=row.size:=by grind
  have hng:(Γ.re b (some w.heap.size)).nm b=some w.heap.size:=by simp [Ctx.re]
  obtain ⟨s1,s2,s3⟩:=Xi (C:=C) (y:=.arr v e (C.ti e).ks.length (els++news)) (ng:=some w.heap.size) (w':=w.drew.alloc (.cells row e)) hH hblt hnf' (λg hg=>by
    simp only [Option.some.injEq] at hg;subst hg
    refine ⟨by rw [hwh];simp,λhs=>Nat.lt_irrefl _ (hH.stlt _ hs),λc _ hc=>Nat.lt_irrefl _ (hH.lt c _ hc).2.1⟩)
   (λg hg=>by simp only [Option.some.injEq] at hg;subst hg;exact .inr (Nat.le_refl _)) (λk hk _=>C6 hwh hk) (by rw [hwh];simp) rfl rfl rfl
   (BR.els (g:=w.heap.size) (cur:=row) hng (C5 hwh) hE hne' r2 hsize) rfl
  refine ⟨_,_,_,hrun,s1,s2,s3 sl tmps,?_,by simpa [PV.nms] using hblt⟩
  refine .fl b w.heap.size v e (C.ti e).ks.length (els.length+news.length) kc ?_ (λ_=>by omega) hng hge hle ?_
  ·rw [Nf hblt,if_pos rfl];simp [Blk.shp]
  ·simp only [World.shape?,C5 hwh,r1]
 cases hS with
 | flv _ e2 sz2 h'=>
  obtain ⟨rfl,_,_,h4⟩:=G5 hb h'
  obtain rfl:=List.length_eq_zero_iff.1 h4
  by_cases hn:news=[]
  ·subst hn
   have hrun:=Q8 (P:=C.P) (w:=w) (ty:=ty) (n:=0) (cap:=0) (base:=none) ht hu1 hu2 hi (by rw [hlen];exact hX) (Nat.le_refl _) (w':=w) rfl
   obtain ⟨s1,s2,s3⟩:=Xi (C:=C) (y:=.arr true e (C.ti e).ks.length ([]++[])) (ng:=Γ.nm b) (w':=w) hH hblt hnf' (λg hg=>⟨(hH.lt b g hg).2.1,(hH.lt b g hg).2.2,λc hc hc2=>hc (hH.inj c b g hc2 hg)⟩)
    (λg hg=>.inl hg) (λ_ _ _=>rfl) (Nat.le_refl _) rfl rfl rfl (.inl ⟨rfl,rfl⟩) rfl
   exact ⟨_,_,_,hrun,s1,s2,s3 sl tmps,.flv b e (C.ti e).ks.length (by rw [Nf hblt,if_pos rfl];rfl),by simpa [PV.nms] using hblt⟩
  ·have hm:0<news.length:=List.length_pos_iff.2 hn
   refine grow none 0 rfl (by simpa using hm) ⟨none,0,rfl,Nat.le_refl _,Nat.zero_le _,λ_=>rfl,λh=>absurd rfl h⟩ (λi h=>by simp at h)
 | fl _ g v' e2 sz2 n' cap h' hv hg hcap hm hs=>
  have hSl:=Ng (C:=C) hH (VP.fl b g v' e2 sz2 n' cap h' hv hg hcap hm hs) (show Aj H (.fl b)=some els by simp only [Aj,hb])
  obtain ⟨rfl,rfl,rfl,rfl⟩:=G5 hb h'
  have hne:¬ (v=true/\els=[]):=by rintro ⟨q1,q2⟩;exact hv q1 (by rw [q2];rfl)
  rcases hc with hc | ⟨rfl,rfl⟩
  ·exact absurd hc hne
  ·obtain ⟨g',cur,hg',hh,hsize,hlens,hels⟩:=hH.arr' hb hne
   rw [hg] at hg';cases hg'
   by_cases hroom:els.length+news.length<=cap
   ·have hcs:cur.size=cap*(C.ti e').ks.length:=by
     have:=hs
     simp only [World.shape?,hh,Option.some.injEq,Prod.mk.injEq,true_and] at this
     exact this
    have hin:els.length*(C.ti e').ks.length+Vs.length<=cur.size:=by
     rw [hX.size,hcs,<-Nat.add_mul]
     exact Nat.mul_le_mul_right _ hroom
    obtain ⟨w',r1,r2,r3,r4,r5,r6,r7,r8⟩:=F4 (P:=C.P) (o:=els.length*(C.ti e').ks.length) hh hin hX.one
    have hrun:=Q8 (P:=C.P) (w:=w) (ty:=ty) (n:=els.length) (cap:=cap) (base:=some ⟨g,0,none⟩) ht hu1 hu2 hi (by rw [hlen];exact hX) hroom (w':=w') (by simp only;rw [F6,hlen,Nat.zero_add];exact r1)
    have hstw:∀ k,Γ.St k->w'.heap[k]? = w.heap[k]?:=λk hk=>r3 k (λe=>(hH.lt b g hg).2.2 (e ▸ hk))
    have hO:Els Γ.St w (C.ti e').ks.length els (cur.toList.take (els.length*(C.ti e').ks.length)):=by
     refine ⟨by simp;omega,λi hi=>⟨hlens i hi,λj hj=>?_⟩⟩
     obtain ⟨U,e1,k⟩:=hels i hi j hj
     refine ⟨U,?_,k⟩
     have hj':j<(C.ti e').ks.length:=by rw [<-hlens i hi];exact hj
     have:(i+1)*(C.ti e').ks.length<=els.length*(C.ti e').ks.length:=Nat.mul_le_mul_right _ hi
     rw [Nat.add_mul] at this
     rw [List.getElem?_take,if_pos (by omega)]
     simpa using e1
    have hE:=(hO.append hX.toEls).mono (w':=w') hstw (λ_ h=>h)
    have hne':¬ (v=true/\els++news=[]):=by rintro ⟨h1,h⟩;simp at h;exact hne ⟨h1,h.1⟩
    have hng:(Γ.re b (some g)).nm b=some g:=by simp [Ctx.re]
    have hol:(cur.toList.take (els.length*(C.ti e').ks.length)).length=els.length*(C.ti e').ks.length:=hO.1
    obtain ⟨s1,s2,s3⟩:=Xi (C:=C) (y:=.arr v e' (C.ti e').ks.length (els++news)) (ng:=some g) (w':=w') hH hblt hnf' (λk hk=>by
      simp only [Option.some.injEq] at hk;subst hk
      refine ⟨by have:=(hH.lt b g hg).2.1;omega,(hH.lt b g hg).2.2,λc hc hc2=>hc (hH.inj c b g hc2 hg)⟩)
     (λk hk=>by simp only [Option.some.injEq] at hk;subst hk;exact .inl hg) (λk hk hk2=>r3 k (λe=>hk2 (e ▸ hg))) (by omega) r5 r6 r7
     (BR.els hng r2 hE hne' (λq hq=>by
      rw [List.length_append,hol] at hq
      simp only [List.getElem?_toArray]
      rw [E7 _ _ _ (by simpa using hin)]
      by_cases hq2:q<els.length*(C.ti e').ks.length
      ·rw [if_neg (by omega),List.getElem?_append_left (by omega),List.getElem?_take,if_pos hq2]
      ·rw [if_pos (by omega),List.getElem?_append_right (by omega),hol]) (by rw [List.length_append,hol];simpa [B4] using hin)) rfl
    refine ⟨_,_,_,hrun,s1,s2,s3 sl tmps,?_,by simpa [PV.nms] using hblt⟩
    refine .fl b g v e' (C.ti e').ks.length (els.length+news.length) cap ?_ (λhv'=>?_) hng hroom hm ?_
    ·rw [Nf hblt,if_pos rfl];simp [Blk.shp]
    ·have:=hv hv';omega
    ·rw [r8];exact hs
   ·exact grow _ cap rfl (by omega) hSl hlens
theorem Je {t u ty:Nat} {sl:List PV} {s x:PV} {S X:Value} {k:PV->List PV->List Blk->Option R} {tmps:Array Value} (hH:HR Γ H w) (hu:BE (C.sh u)=true) (h:Aq C t sl s x H k=some r) (hs:VP Γ (A1 H) w s S) (hx:VP Γ (A1 H) w x X) :
  ∃ v sl' H',k v sl' H'=some r/\WV C Γ H w sl tmps (Builtin.append_ #[t,u] ty #[S,X]) v sl' H':=by
 unfold Aq at h
 split at h
 ·rename_i e hsh
  have ht:=E1 hsh
  split at h
  ·rename_i hok
   simp only [Bool.and_eq_true] at hok
   obtain ⟨hok,hsrc⟩:=hok
   split at h
   ·rename_i news hnews
    obtain ⟨Vs,hX⟩:=CH (C:=C) hH hx hsrc hnews
    split at h
    ·obtain ⟨h1,h2⟩:=A7 h
     simp only [Q5,decide_eq_true_eq] at h1
     obtain rfl:=hs.inv_nsl
     have:=Uz (C:=C) (t:=t) (u:=u) (ty:=ty) (z:=true) (els:=[]) (A:=none) (sl:=sl) (tmps:=tmps) hH ht hu hok rfl ⟨none,0,rfl,Nat.le_refl _,Nat.zero_le _,λ_=>rfl,λh=>absurd rfl h⟩ (λ_=>⟨rfl,rfl⟩) (λi h=>by simp at h) hX (.inl rfl) (by simpa using h1)
     exact ⟨_,_,_,h2,this⟩
    ·rename_i z kk els
     split at h
     ·rename_i hkk
      subst hkk
      obtain ⟨h1,h2⟩:=A7 h
      simp only [Q5,Bool.and_eq_true,Bool.or_eq_true,decide_eq_true_eq,Bool.not_eq_true',List.isEmpty_eq_false_iff] at h1
      obtain ⟨A,rfl,hz,_,hlens⟩:=Bp6 hs.inv_s
      have hSl:=Ng (C:=C) hH hs (show Aj H (.s (.sl z true (C.ti e).ks.length els))=some els from rfl)
      exact ⟨_,_,_,h2,Uz (C:=C) hH ht hu hok rfl hSl hz hlens hX h1.1 h1.2⟩
     ·cases h
    ·rename_i b
     split at h
     ·rename_i v e' sz els hb
      split at h
      ·rename_i hc
       simp only [Bool.and_eq_true,Bool.not_eq_true',Bool.or_eq_true,decide_eq_true_eq,List.isEmpty_iff] at hc
       obtain ⟨h1,h2⟩:=A7 h
       simp only [Q5,decide_eq_true_eq] at h1
       exact ⟨_,_,_,h2,OH (C:=C) hH ht hu hok hb hc.1 hc.2.symm hs hX h1⟩
      ·cases h
     ·cases h
    ·cases h
   ·cases h
  ·cases h
 ·cases h
end
section
variable {Γ : Ctx} {H : List Blk} {w : World} {R : Type} {r : R} {C : Cfg}
theorem Ti {sh:Nat->Option Shp} (s:ByteArray):∀ (l:List (List UInt8 × PV)) (es:List MapEntry) (n:Nat),MR Γ sh w l es->
  (U9 l s.data.toList=false/\Instr.findNow .string (.string s) es n=some none/\De l s.data.toList=l/\∀ v V b,VP Γ sh w v V->MR Γ sh w (Cg l s.data.toList v) (es++[⟨.string s,V,b⟩]))\/
  (U9 l s.data.toList=true/\∃ i E,Instr.findNow .string (.string s) es n=some (some (n+i,E.val))/\es[i]? = some E/\E.key = .string s/\VP Γ sh w (T7 .bad l s.data.toList) E.val/\MR Γ sh w (De l s.data.toList) (es.eraseIdx i)/\
   ∀ v V,VP Γ sh w v V->MR Γ sh w (Cg l s.data.toList v) (es.modify i λe=>{ e with key:=.string s,val:=V }))
 | [],[],n,_=>.inl ⟨rfl,rfl,rfl,λv V b hv=>⟨⟨⟨s,rfl,rfl⟩,hv⟩,trivial⟩⟩
 | e::l,E::es,n,h=>by
  obtain ⟨⟨⟨s',hk,hs'⟩,hv⟩,hr⟩:=h
  have hsm:Instr.sameNow .string (.string s) E.key=some (s==s'):=by rw [hk];rfl
  have heq:(s==s')=(s.data.toList==e.1):=by
   rw [<-hs',Bool.eq_iff_iff]
   simp only [MapKept.bytes_beq,beq_iff_eq]
   constructor
   ·rintro rfl;rfl
   ·intro h
    have e:s.data=s'.data:=Array.toList_inj.1 h
    cases s;cases s'
    simp_all
  cases hb:(s.data.toList==e.1) with
  | true=>
   rw [hb] at heq
   have e1:e.1=s.data.toList:=(eq_of_beq hb).symm
   have hss:s=s':=(MapKept.bytes_beq s s').1 heq
   subst hss
   refine .inr ⟨by simp only [U9,hb,cond_true],0,E,by simp [Instr.findNow,hsm,heq],rfl,hk,by simpa only [T7,hb,cond_true] using hv,by simpa only [De,hb,cond_true,List.eraseIdx_zero,List.tail_cons] using hr,λv V k=>?_⟩
   simp only [Cg,hb,cond_true]
   exact ⟨⟨⟨s,rfl,e1.symm⟩,k⟩,hr⟩
  | false=>
   rw [hb] at heq
   rcases Ti s l es (n+1) hr with ⟨h1,h2,h3,h4⟩ | ⟨h1,i,E',h2,h3,hkk,h4,h5,h6⟩
   ·refine .inl ⟨by simp only [U9,hb,cond_false,h1],by simp [Instr.findNow,hsm,heq,h2],by simp only [De,hb,cond_false,h3],λv V b k=>?_⟩
    simp only [Cg,hb,cond_false]
    exact ⟨⟨⟨s',hk,hs'⟩,hv⟩,h4 v V b k⟩
   ·refine .inr ⟨by simp only [U9,hb,cond_false,h1],i+1,E',by simp [Instr.findNow,hsm,heq,h2];omega,by simpa using h3,hkk,by simpa only [T7,hb,cond_false] using h4,?_,λv V k=>?_⟩
    ·simp only [De,hb,cond_false,List.eraseIdx_cons_succ]
     exact ⟨⟨⟨s',hk,hs'⟩,hv⟩,h5⟩
    ·simp only [Cg,hb,cond_false,List.modify_succ_cons]
     exact ⟨⟨⟨s',hk,hs'⟩,hv⟩,h6 v V k⟩
 | [],_::_,_,h=>h.elim
 | _::_,[],_,h=>h.elim
theorem BS:∀ (l:List (List UInt8 × PV)) (q:List UInt8),∀ c∈(T7 .bad l q).nms,c∈B3 (l.map Prod.snd)
 | [],q,c,hc=>by simp [T7,PV.nms] at hc
 | e::l,q,c,hc=>by
  simp only [T7] at hc
  simp only [List.map_cons,B3,List.mem_append]
  cases hb:(q==e.1) with
  | true=>rw [hb] at hc;exact .inl hc
  | false=>rw [hb] at hc;exact .inr (BS l q c hc)
theorem BW (v:PV):∀ (l:List (List UInt8 × PV)) (q:List UInt8),∀ c∈B3 ((Cg l q v).map Prod.snd),c∈B3 (l.map Prod.snd)\/c∈v.nms
 | [],q,c,hc=>by simp only [Cg,List.map_cons,List.map_nil,B3,List.append_nil] at hc;exact .inr hc
 | e::l,q,c,hc=>by
  simp only [Cg] at hc
  cases hb:(q==e.1) with
  | true=>
   rw [hb] at hc
   simp only [cond_true,List.map_cons,B3,List.mem_append] at hc ⊢
   exact hc.elim .inr (λh=>.inl (.inr h))
  | false=>
   rw [hb] at hc
   simp only [cond_false,List.map_cons,B3,List.mem_append] at hc ⊢
   rcases hc with h | h
   ·exact .inl (.inl h)
   ·exact (BW v l q c h).elim (λh=>.inl (.inr h)) .inr
theorem BP:∀ (l:List (List UInt8 × PV)) (q:List UInt8),∀ c∈B3 ((De l q).map Prod.snd),c∈B3 (l.map Prod.snd)
 | [],q,c,hc=>hc
 | e::l,q,c,hc=>by
  simp only [De] at hc
  simp only [List.map_cons,B3,List.mem_append]
  cases hb:(q==e.1) with
  | true=>rw [hb] at hc;exact .inr hc
  | false=>
   rw [hb] at hc
   simp only [cond_false,List.map_cons,B3,List.mem_append] at hc
   exact hc.imp id (BP l q c)
theorem HR.mp' (hH:HR Γ H w) {b:Nat} {ents:List (List UInt8 × PV)} {X:Value} (hb:H[b]? = some (.mp ents)) (hx:VP Γ (A1 H) w (.it b) X) :
  ∃ g es ck,Γ.nm b=some g/\X = .map (some g)/\w.heap[g]? = some (.map es ck)/\MR Γ (A1 H) w ents es.toList/\∀ c∈B3 (ents.map Prod.snd),c<H.length:=by
 obtain ⟨g,hg,rfl⟩:=SN hb hx
 obtain ⟨hlt,hbe⟩:=List.getElem?_eq_some_iff.1 hb
 have hB:=hH.blk b hlt
 rw [hbe] at hB
 obtain ⟨g',es,ck,h1,h2,h3⟩:=hB
 rw [hg] at h1;cases h1
 exact ⟨g,es,ck,hg,rfl,h2,h3,λc hc=>hH.nms b hlt c (by rw [hbe];exact hc)⟩
theorem Hi {t:Nat} {k:PV->List Blk->Option R} {sl:List PV} {tmps:Array Value} (hH:HR Γ H w) (h:Ew C t H k=some r) :
  ∃ v H',k v H'=some r/\WV C Γ H w sl tmps (Instr.makeMap t none) v sl H'/\∃ V o,(Instr.makeMap t none).run C.P w = .ok V (w.alloc o):=by
 unfold Ew at h
 split at h
 ·rename_i kt e _
  split at h
  ·have hwh:(w.alloc (.map #[] 0)).heap=w.heap.push (.map #[] 0):=rfl
   cases hs:(C.ti e).ks.all CK.scal with
   | true=>
    rw [hs] at h
    refine ⟨_,_,h,Z5 hH (V:=.map (some w.heap.size)) (o:=.map #[] 0) (w':=w.alloc (.map #[] 0)) rfl hwh rfl rfl rfl ⟨w.heap.size,#[],0,by simp [Ctx.upd],C5 hwh,trivial⟩ (by simp [Blk.nms]) ?_ (by simp [PV.nms]),_,_,rfl⟩
    exact .mpv _ _ (by rw [D4];rfl) (by simp [Ctx.upd])
   | false=>
    rw [hs] at h
    refine ⟨_,_,h,Z5 hH (V:=.map (some w.heap.size)) (o:=.map #[] 0) (w':=w.alloc (.map #[] 0)) rfl hwh rfl rfl rfl ⟨w.heap.size,#[],0,by simp [Ctx.upd],C5 hwh,trivial⟩ (by simp [Blk.nms,B3]) ?_ (by simp [PV.nms]),_,_,rfl⟩
    exact .mpv _ _ (by rw [D4];rfl) (by simp [Ctx.upd])
  ·cases h
 ·cases h
theorem Ai0 {t:Nat} {v:PV} {V:Value} (h:okV (C.ti t) v=true) (hv:VP Γ (A1 H) w v V):VP Γ (A1 H) w (asV (C.ti t) v) V/\∀ c∈(asV (C.ti t) v).nms,c∈v.nms:=by
 simp only [okV,Bool.and_eq_true,beq_iff_eq] at h
 obtain ⟨h1,h3,h2⟩:=h
 have h3:=Nat.eq_of_beq_eq_true h3
 have hlt:=HP h2
 have hel:∀ j (hj:j<(Q4 (C.ti t) v.cells 0).length),∃ (hl:j<v.cells.length) (hk:j<(C.ti t).ks.length),(Q4 (C.ti t) v.cells 0)[j]=(v.cells[j]).as ((C.ti t).ks[j])/\(v.cells[j]).has ((C.ti t).ks[j])=true:=λj hj=>by
  have hj':j<(C.ti t).ks.length:=by rw [I4] at hj;exact hj
  have hl:=hlt j hj'
  rw [Nat.zero_add] at hl
  have hh:=HO h2 j hj'
  rw [Nat.zero_add,O7 hl] at hh
  exact ⟨hl,hj',by simp [Q4,List.getElem?_eq_getElem hl],hh⟩
 have hnm:∀ c∈B3 (Q4 (C.ti t) v.cells 0),c∈v.nms:=λc hc=>by
  obtain ⟨j,hj,hc⟩:=A8.1 hc
  obtain ⟨hl,hk,e,_⟩:=hel j hj
  rw [e] at hc
  exact PV.cells_nms c (A8.2 ⟨j,hl,PV.as_nms c hc⟩)
 have hlen:(Q4 (C.ti t) v.cells 0).length=v.cells.length:=by rw [I4,h3]
 unfold asV
 rw [Wm]
 cases ha:(C.ti t).agg with
 | true=>
  rw [ha] at h1
  simp only [if_true]
  refine ⟨?_,by simpa [PV.nms] using hnm⟩
  cases v with
  | agg l=>
   obtain ⟨A,rfl,hA,hc⟩:=hv.inv_agg
   refine VP.mk_agg (by rw [hlen];exact hA) λj hj=>?_
   obtain ⟨hl,hk,e,hh⟩:=hel j hj
   obtain ⟨U,e1,k1⟩:=hc j hl
   exact ⟨U,e1,by rw [e];exact k1.as hh⟩
  | _=>cases h1
 | false=>
  rw [ha] at h1
  simp only [Bool.false_eq_true,if_false]
  split
  ·rename_i hl1
   have hj:0<(Q4 (C.ti t) v.cells 0).length:=by rw [I4];omega
   rw [O7 hj]
   refine ⟨?_,λc hc=>hnm c (A8.2 ⟨0,hj,hc⟩)⟩
   obtain ⟨hl,hk,e,hh⟩:=hel 0 hj
   have hc0:v.cells[0]=v:=by
    cases v with
    | agg l=>cases h1
    | bad=>exact absurd hl (by simp [PV.cells])
    | _=>rfl
   rw [e]
   generalize (C.ti t).ks[0]=c at hh ⊢
   simp only [hc0] at hh ⊢
   exact hv.as hh
  ·exact ⟨.bad V,by simp [PV.nms]⟩
theorem Aw4 {sh:Nat->Option Shp} {t:Nat} (h:(C.ti t).ok=true) (hf:IQ C t=true):∃ i Z,C.P.info? t=some i/\i.zero=some Z/\VP Γ sh w (Sg (C.ti t)) Z/\(Sg (C.ti t)).nms=[]:=by
 obtain ⟨i,z,hi,hz,hsz,hCR⟩:=Z4 (Γ:=Γ) (sh:=sh) (w:=w) h
 obtain ⟨_,_,_,hpos⟩:=F1 h
 have hn:=Ff (C.ti t).ks
 refine ⟨i,z,hi,hz,?_⟩
 simp only [IQ,hi,Option.map_some,hz] at hf
 unfold Sg
 cases ha:(C.ti t).agg with
 | true=>
  rw [ha] at hf
  simp only [if_true]
  refine ⟨?_,by simpa [PV.nms] using hn⟩
  cases z with
  | agg A=>exact VP.mk_agg hCR.1 hCR.2
  | _=>cases hf
 | false=>
  rw [ha] at hf
  simp only [Bool.false_eq_true,if_false]
  split
  ·rename_i c hc
   rw [hc] at hCR
   obtain ⟨U,e,k⟩:=hCR.2 0 (by simp)
   have hzc:z.cells[0]? = some z:=by
    cases z<;>first | rfl | (simp at hf)
   rw [hzc] at e
   cases e
   refine ⟨by simpa using k,?_⟩
   cases c<;>rfl
  ·exact ⟨.bad z,rfl⟩
section
variable {α β : Type} (f : α -> β)
theorem BT:∀ (l:List (List UInt8 × α)) (q:List UInt8),U9 (l.map λe=>(e.1,f e.2)) q=U9 l q
 | [],_=>rfl
 | e::l,q=>by simp only [List.map_cons,U9,BT l q]
theorem BQ (d:α):∀ (l:List (List UInt8 × α)) (q:List UInt8),T7 (f d) (l.map λe=>(e.1,f e.2)) q=f (T7 d l q)
 | [],_=>rfl
 | e::l,q=>by simp only [List.map_cons,T7,BQ d l q];cases q==e.1<;>rfl
theorem BU (v:α):∀ (l:List (List UInt8 × α)) (q:List UInt8),Cg (l.map λe=>(e.1,f e.2)) q (f v)=(Cg l q v).map λe=>(e.1,f e.2)
 | [],_=>rfl
 | e::l,q=>by simp only [List.map_cons,Cg,BU v l q];cases q==e.1<;>rfl
theorem BO:∀ (l:List (List UInt8 × α)) (q:List UInt8),De (l.map λe=>(e.1,f e.2)) q=(De l q).map λe=>(e.1,f e.2)
 | [],_=>rfl
 | e::l,q=>by simp only [List.map_cons,De,BO l q];cases q==e.1<;>rfl
end
theorem Ws {α:Type} (d d':α):∀ (l:List (List UInt8 × α)) (q:List UInt8),U9 l q=true->T7 d l q=T7 d' l q
 | [],_,h=>by cases h
 | e::l,q,h=>by
  simp only [U9,T7] at h ⊢
  cases hb:(q==e.1) with
  | true=>rfl
  | false=>rw [hb] at h;exact Ws d d' l q h
theorem Ab8 {t:TI} {l:List SV} (ha:Bh8 t l=true) (hs:t.ks.all CK.scal=true) (hok:t.ok=true):okV t (svV t.agg l)=true/\asV t (svV t.agg l)=IF t true l\/IF t true l = .bad:=by
 have key:∀ c,c.scal=true->∀ x:SV,(PV.s x).as c=A84 true x c:=λc hc x=>by cases c<;>first | rfl | cases hc
 have hkey:∀ c,c.scal=true->∀ x:SV,x.has c=true->(PV.s x).has c=true:=λc hc x h=>by cases c<;>first | exact h | cases hc
 simp only [Bh8,Bool.and_eq_true,List.all_eq_true] at ha
 have hl:=Nat.eq_of_beq_eq_true ha.1
 have hmem:∀ {c j},(c,j)∈t.ks.zipIdx->c.scal=true/\j<l.length:=fun {c j} h=>by
  have:=List.mem_zipIdx_iff_getElem?.1 h
  exact ⟨List.all_eq_true.1 hs c (List.mem_of_getElem? this),by rw [hl];exact (List.getElem?_eq_some_iff.1 this).1⟩
 have hget:∀ j,j<l.length->(l.map PV.s).getD j .bad = .s (l.getD j .nilp):=λj hj=>by simp [hj]
 cases hg:t.agg with
 | true=>
  left
  refine ⟨?_,?_⟩
  ·simp only [okV,svV,cond_true,PV.isAgg,hg,beq_self_eq_true,PV.cells,List.length_map,Bool.and_eq_true,okP,hok,List.all_eq_true,true_and]
   refine ⟨ha.1,λp hp=>?_⟩
   obtain ⟨c,j⟩:=p
   obtain ⟨q1,q2⟩:=hmem hp
   have:=ha.2 _ hp
   simp only [Nat.zero_add]
   rw [hget j q2]
   exact hkey c q1 _ this
  ·simp only [asV,Gi,hg,if_true,svV,cond_true,PV.cells,IF]
   congr 1
   refine List.map_congr_left λp hp=>?_
   obtain ⟨c,j⟩:=p
   obtain ⟨q1,q2⟩:=hmem hp
   simp only [Nat.zero_add]
   rw [hget j q2]
   exact key c q1 _
 | false=>
  match l,hl with
  | [],hl=>
   right
   have:t.ks=[]:=List.length_eq_zero_iff.1 hl.symm
   simp [IF,hg,this]
  | x::y::z,hl=>
   right
   match h:t.ks,hl with
   | [],hl=>cases hl
   | [c],hl=>cases hl
   | _::_::_,_=>simp [IF,hg,h]
  | [x],hl=>
   left
   obtain ⟨c,hc⟩:∃ c,t.ks=[c]:=by
    match h:t.ks with
    | []=>rw [h] at hl;cases hl
    | [c]=>exact ⟨c,rfl⟩
    | _::_::_=>rw [h] at hl;cases hl
   have hsc:c.scal=true:=by rw [hc] at hs;simpa using hs
   have hx:x.has c=true:=by
    have:=ha.2 (c,0) (by rw [hc];simp)
    simpa using this
   refine ⟨?_,?_⟩
   ·simp only [okV,svV,cond_false,PV.isAgg,hg,beq_self_eq_true,PV.cells,hc,okP,hok,Bool.and_eq_true,true_and]
    exact ⟨rfl,by simpa using hkey c hsc x hx⟩
   ·simp only [asV,Gi,hg,Bool.false_eq_true,if_false,svV,cond_false,PV.cells,IF,hc]
    exact key c hsc x
theorem UK {t:TI} {l:List SV} (hs:t.ks.all CK.scal=true):IF t false l=Sg t:=by
 have key:∀ c,c.scal=true->∀ x:SV,A84 false x c=J8 c:=λc hc x=>by cases c<;>first | rfl | cases hc
 unfold IF Sg
 split
 ·congr 1
  refine List.ext_getElem (by simp) λj h1 h2=>?_
  simp only [List.getElem_map,List.getElem_zipIdx]
  exact key _ (List.all_eq_true.1 hs _ (List.getElem_mem _)) _
 ·split
  ·rename_i c hc
   exact key c (List.all_eq_true.1 hs c (by rw [hc];simp)) _
  ·rfl
theorem Ap7 {sh:Nat->Option Shp} {v:PV} {V:Value} (ok b:Bool) (h:VP Γ sh w v V):VP Γ sh w (Rl ok v b) (if ok then .tuple #[V,.bool b] else V)/\∀ c∈(Rl ok v b).nms,c∈v.nms:=by
 cases ok with
 | true=>
  refine ⟨VP.mk_tup rfl λj hj=>?_,λc hc=>by simpa [Rl,PV.nms,B3] using hc⟩
  match j,hj with
  | 0,_=>exact ⟨V,rfl,h⟩
  | 1,_=>exact ⟨_,rfl,.s _ _ (.bool b)⟩
 | false=>exact ⟨h,λc hc=>hc⟩
theorem HR.ms' (hH:HR Γ H w) {b:Nat} {a:Bool} {ents:List (List UInt8 × List SV)} {X:Value} (hb:H[b]? = some (.ms a ents)) (hx:VP Γ (A1 H) w (.it b) X) :
  ∃ g es ck,Γ.nm b=some g/\X = .map (some g)/\w.heap[g]? = some (.map es ck)/\MR Γ (A1 H) w (msP a ents) es.toList:=by
 obtain ⟨g,hg,rfl⟩:=SO hb hx
 obtain ⟨hlt,hbe⟩:=List.getElem?_eq_some_iff.1 hb
 have hB:=hH.blk b hlt
 rw [hbe] at hB
 obtain ⟨g',es,ck,h1,h2,h3⟩:=hB
 rw [hg] at h1;cases h1
 exact ⟨g,es,ck,hg,rfl,h2,h3⟩
theorem Rm {sh:Nat->Option Shp} {t kt e g ck:Nat} {ok:Bool} {Z:Value} {es:Array MapEntry} {s:ByteArray} {ents:List (List UInt8 × PV)} (hm:C.P.underlying t=some (.map kt e)) (hk:C.P.underlying kt=some .string) (hzv:∀ w':World,(zeroValue e).run C.P w' = .ok Z w') (hh:w.heap[g]? = some (.map es ck)) (hMR:MR Γ sh w ents es.toList) :
  (U9 ents s.data.toList=false/\∀ w':World,Ext w w'->(Instr.lookup t (.map (some g)) (.string s) ok).run C.P w' = .ok (if ok then .tuple #[Z,.bool false] else Z) w')\/
  (U9 ents s.data.toList=true/\∃ V,VP Γ sh w (T7 .bad ents s.data.toList) V/\∀ w':World,Ext w w'->(Instr.lookup t (.map (some g)) (.string s) ok).run C.P w' = .ok (if ok then .tuple #[V,.bool true] else V) w'):=by
 have hheap:∀ w':World,Ext w w'->w'.heap[g]? = some (.map es ck):=λw' hw=>(hw g (Array.getElem?_eq_some_iff.1 hh).1).trans hh
 rcases Ti s ents es.toList 0 hMR with ⟨h1,h2,_⟩ | ⟨h1,n,E,h2,h3,h4,h5,_⟩
 ·refine .inl ⟨h1,λw' hw=>?_⟩
  simp [Instr.lookup,run_underlying hm,MapKept.run_getObj_map (hheap w' hw),MapKept.run_checkKey (n:=9999) hk (show MapKept.IsKey .string (.string s) from trivial),MapKept.run_findKey hk h2,hzv]
 ·refine .inr ⟨h1,E.val,h5,λw' hw=>?_⟩
  simp [Instr.lookup,run_underlying hm,MapKept.run_getObj_map (hheap w' hw),MapKept.run_checkKey (n:=9999) hk (show MapKept.IsKey .string (.string s) from trivial),MapKept.run_findKey hk h2]
theorem Ys {t:Nat} {x i:PV} {X I:Value} {ok:Bool} {k:PV->Option R} (hH:HR Γ H w) (h:Im C t x i ok H k=some r) (hx:VP Γ (A1 H) w x X) (hi:VP Γ (A1 H) w i I) :
  ∃ v,k v=some r/\QV C.P Γ H w (Instr.lookup t X I ok) v:=by
 unfold Im at h
 split at h
 case h_2=>cases h
 rename_i kt e q hsh
 obtain ⟨s,rfl,rfl⟩:=hi.inv_str
 have hm:=Gc hsh
 split at h
 case h_2=>cases h
 rename_i hks
 have hk:=S8 hks
 split at h
 case isFalse=>cases h
 rename_i hok
 simp only [Bool.and_eq_true] at hok
 obtain ⟨ii,Z,hii,hZ,hz,hzn⟩:=Aw4 (Γ:=Γ) (sh:=A1 H) (w:=w) hok.1 hok.2
 have hzv:∀ w':World,(zeroValue e).run C.P w' = .ok Z w':=λw'=>by simp [zeroValue,typeInfo,hii,hZ]
 have out:∀ {k':PV->Option R} {b:Bool} {v:PV} {V:Value},k' (Rl ok v b)=some r->VP Γ (A1 H) w v V->(∀ c∈v.nms,c<H.length)->(∀ w':World,Ext w w'->(Instr.lookup t X (.string s) ok).run C.P w' = .ok (if ok then .tuple #[V,.bool b] else V) w')->∃ v,k' v=some r/\QV C.P Γ H w (Instr.lookup t X (.string s) ok) v:=fun {k'} {b} {v} {V} h1 h2 h3 h4=>by
  obtain ⟨l1,l2⟩:=Ap7 ok b h2
  exact ⟨_,h1,λc hc=>h3 c (l2 c hc),_,l1,h4⟩
 have hz0:∀ c∈(Sg (C.ti e)).nms,c<H.length:=by rw [hzn];simp
 split at h
 ·obtain rfl:=hx.inv_nilm
  refine out h hz hz0 λw' _=>?_
  simp [Instr.lookup,run_underlying hm,MapKept.run_checkKey (n:=9999) hk (show MapKept.IsKey .string (.string s) from trivial),MapKept.run_findKey (k:=.string s) (l:=[]) (a:=none) hk rfl,hzv]
 ·rename_i b
  split at h
  ·rename_i a ents hb
   obtain ⟨g,es,ck,hg,rfl,hh,hMR⟩:=hH.ms' hb hx
   split at h
   ·rename_i hs
    simp only [Bool.and_eq_true,beq_iff_eq] at hs
    obtain ⟨hs,rfl⟩:=hs
    obtain ⟨q1,q2⟩:=A7 h
    have e1:=BT (svV (C.ti e).agg) ents s.data.toList
    rcases Rm (ok:=ok) (s:=s) hm hk hzv hh hMR with ⟨h1,h2⟩ | ⟨h1,V,hv,h2⟩
    ·rw [show U9 ents s.data.toList=false from e1.symm.trans h1] at q2
     rw [UK hs] at q2
     exact out q2 hz hz0 h2
    ·have h1':U9 ents s.data.toList=true:=e1.symm.trans h1
     rw [h1'] at q1 q2
     simp only [Bool.not_true,Bool.false_or] at q1
     rw [Ws .bad (svV (C.ti e).agg []) _ _ h1,show T7 (svV (C.ti e).agg []) (msP (C.ti e).agg ents) s.data.toList=svV (C.ti e).agg (T7 [] ents s.data.toList) from BQ _ _ _ _] at hv
     rcases Ab8 q1 hs hok.1 with ⟨o1,o2⟩ | o
     ·obtain ⟨v1,v2⟩:=Ai0 o1 hv
      rw [o2] at v1 v2
      exact out q2 v1 (λc hc=>by have:=v2 c hc;rw [IJ] at this;simp at this) h2
     ·rw [o] at q2
      exact out q2 (.bad V) (by simp [PV.nms]) h2
   ·cases h
  ·rename_i ents hb
   obtain ⟨g,es,ck,hg,rfl,hh,hMR,hnm⟩:=hH.mp' hb hx
   rcases Rm (ok:=ok) (s:=s) hm hk hzv hh hMR with ⟨h1,h2⟩ | ⟨h1,V,hv,h2⟩
   ·rw [h1] at h
    exact out h hz hz0 h2
   ·rw [h1] at h
    simp only [Ai,cond_true] at h
    obtain ⟨q1,q2⟩:=A7 h
    obtain ⟨v1,v2⟩:=Ai0 q1 hv
    exact out q2 v1 (λc hc=>hnm c (BS _ _ c (v2 c hc))) h2
  ·cases h
 ·cases h
theorem Mp {m:Sem Value} {b g ck:Nat} {x y:Blk} {es es':Array MapEntry} {ents':List (List UInt8 × PV)} {ck':Nat} {V:Value} {v:PV} {sl:List PV} {tmps:Array Value} (hH:HR Γ H w) (hb:H[b]? = some x) (hg:Γ.nm b=some g) (hh:w.heap[g]? = some (.map es ck)) (hxy:y.shp=x.shp)
  (hm:m.run C.P w = .ok V { w with heap:=w.heap.setIfInBounds g (.map es' ck') }) (hMR:MR Γ (A1 H) w ents' es'.toList) (hn:∀ c∈y.nms,c<H.length) (hy:y = .mp ents'\/∃ a l,y = .ms a l/\ents'=msP a l) (hv:∀ sh w,VP Γ sh w v V) (hvn:v.nms=[]):WV C Γ H w sl tmps m v sl (H.set b y):=by
 obtain ⟨k1,k2⟩:=MapKept.heap_set (o':=.map es' ck') hh
 have hsh:({ w with heap:=w.heap.setIfInBounds g (.map es' ck') }:World).shape? g=w.shape? g:=by simp only [World.shape?,k1,hh]
 have M:=Y8 (w':={ w with heap:=w.heap.setIfInBounds g (.map es' ck') }) (y:=y) hH hb hg hxy k2 hsh
 have hMR':=hMR.imp (Γ':=Γ) λu _ U k=>k.mono M λ_ _=>trivial
 refine Fe hH hm hb hg hxy k2 hsh (by simp) rfl rfl rfl ?_ hn (hv _ _) (by simp [hvn])
 rcases hy with rfl | ⟨a,l,rfl,rfl⟩
 ·exact ⟨g,es',ck',hg,k1,hMR'⟩
 ·exact ⟨g,es',ck',hg,k1,hMR'⟩
theorem MG {sh:Nat->Option Shp} {t kt e g ck:Nat} {es:Array MapEntry} {s:ByteArray} {ents:List (List UInt8 × PV)} {v:PV} {V:Value} (hu:C.P.underlying t=some (.map kt e)) (hk:C.P.underlying kt=some .string) (hh:w.heap[g]? = some (.map es ck)) (hMR:MR Γ sh w ents es.toList) (hv:VP Γ sh w v V) :
  ∃ es' ck',(do Instr.mapUpdate t (.map (some g)) (.string s) V;pure undef:Sem Value).run C.P w = .ok undef { w with heap:=w.heap.setIfInBounds g (.map es' ck') }/\MR Γ sh w (Cg ents s.data.toList v) es'.toList:=by
 have hkey:MapKept.IsKey .string (.string s):=trivial
 rcases Ti s ents es.toList 0 hMR with ⟨h1,h2,_,h4⟩ | ⟨h1,n,E,h2,h3,h4,h5,_,h7⟩
 ·refine ⟨es.push ⟨.string s,V,ck⟩,ck+1,?_,by simpa using h4 v V ck hv⟩
  simp [Instr.mapUpdate,run_underlying hu,MapKept.run_getObj_map hh,MapKept.run_checkKey (n:=9999) hk hkey,MapKept.run_findKey hk h2,MapKept.run_setObj_map _ hh]
 ·rw [Nat.zero_add] at h2
  have h3':es[n]? = some E:=by simpa using h3
  refine ⟨es.modify n λe=>{ e with key:=.string s,val:=V },ck,?_,by simpa using h7 v V hv⟩
  simp [Instr.mapUpdate,run_underlying hu,MapKept.run_getObj_map hh,MapKept.run_checkKey (n:=9999) hk hkey,MapKept.run_findKey hk h2,h3',h4,MapKept.run_keyThatStays hkey,MapKept.run_setObj_map _ hh]
theorem Yv {t:Nat} {m x v:PV} {M X V:Value} {k:List Blk->Option R} {sl:List PV} {tmps:Array Value} (hH:HR Γ H w) (h:Ip C t m x v H k=some r) (hm:VP Γ (A1 H) w m M) (hx:VP Γ (A1 H) w x X) (hv:VP Γ (A1 H) w v V) (hvn:∀ c∈v.nms,c<H.length) :
  ∃ H',k H'=some r/\WV C Γ H w sl tmps (do Instr.mapUpdate t M X V;pure undef) (.tup []) sl H':=by
 unfold Ip at h
 split at h
 case h_2=>cases h
 rename_i kt e b q hsh
 obtain ⟨s,rfl,rfl⟩:=hx.inv_str
 have hu:=Gc hsh
 split at h
 ·rename_i a ents hks hb
  split at h
  ·rename_i l hl
   obtain ⟨g,es,ck,hg,rfl,hh,hMR⟩:=hH.ms' hb hm
   have hvl:VP Γ (A1 H) w (svV a l) V:=by
    unfold plC at hl
    split at hl
    ·rename_i vs
     obtain ⟨A,rfl,hA,hc⟩:=hv.inv_agg
     obtain ⟨e1,e2⟩:=G6 (As:=A.toList) hl (by simpa using hA.symm) (λj hj=>by obtain ⟨U,e,k⟩:=hc j hj;exact ⟨U,by simpa using e,k⟩)
     simp only [svV,cond_true]
     refine VP.mk_agg (by simpa using e1.symm) λj hj=>?_
     obtain ⟨U,e,k⟩:=e2 j (by simpa using hj)
     exact ⟨U,by simpa using e,by rw [List.getElem_map];exact .s _ _ k⟩
    ·cases hl;exact hv
    ·cases hl
   obtain ⟨es',ck',hr,hMR'⟩:=MG (s:=s) hu (S8 hks) hh hMR hvl
   exact ⟨_,h,Mp hH hb hg hh rfl hr hMR' (by simp [Blk.nms]) (.inr ⟨a,_,rfl,BU _ _ _ _⟩) (λ_ _=>P6) rfl⟩
  ·cases h
 ·rename_i ents hks hb
  obtain ⟨g,es,ck,hg,rfl,hh,hMR,hnm⟩:=hH.mp' hb hm
  obtain ⟨es',ck',hr,hMR'⟩:=MG (s:=s) hu (S8 hks) hh hMR hv
  exact ⟨_,h,Mp hH hb hg hh rfl hr hMR' (λc hc=>(BW v ents _ c hc).elim (hnm c) (hvn c)) (.inl rfl) (λ_ _=>P6) rfl⟩
 ·cases h
theorem JZ {sh:Nat->Option Shp} {t kt e g ck ty:Nat} {ts:List Nat} {es:Array MapEntry} {s:ByteArray} {ents:List (List UInt8 × PV)} (hu:C.P.underlying t=some (.map kt e)) (hk:C.P.underlying kt=some .string) (hh:w.heap[g]? = some (.map es ck)) (hMR:MR Γ sh w ents es.toList) :
  ∃ es' ck',(Builtin.delete_ (t::ts).toArray ty #[.map (some g),.string s]).run C.P w = .ok (.tuple #[]) { w with heap:=w.heap.setIfInBounds g (.map es' ck') }/\MR Γ sh w (De ents s.data.toList) es'.toList:=by
 have hkey:MapKept.IsKey .string (.string s):=trivial
 rcases Ti s ents es.toList 0 hMR with ⟨h1,h2,h3,h4⟩ | ⟨h1,n,E,h2,h3,h4,h5,h6,_⟩
 ·refine ⟨es,ck,?_,by rw [h3];exact hMR⟩
  simp [Builtin.delete_,run_underlying hu,MapKept.run_getObj_map hh,MapKept.run_checkKey (n:=9999) hk hkey,MapKept.run_findKey hk h2,MapKept.run_setObj_map _ hh]
 ·rw [Nat.zero_add] at h2
  refine ⟨es.eraseIdxIfInBounds n,ck,?_,by simpa using h6⟩
  simp [Builtin.delete_,run_underlying hu,MapKept.run_getObj_map hh,MapKept.run_checkKey (n:=9999) hk hkey,MapKept.run_findKey hk h2,MapKept.run_setObj_map _ hh]
theorem Yu {t ty:Nat} {ts:List Nat} {m x:PV} {M X:Value} {k:List Blk->Option R} {sl:List PV} {tmps:Array Value} (hH:HR Γ H w) (h:Io C t m x H k=some r) (hm:VP Γ (A1 H) w m M) (hx:VP Γ (A1 H) w x X) :
  ∃ H',k H'=some r/\WV C Γ H w sl tmps (Builtin.delete_ (t::ts).toArray ty #[M,X]) (.tup []) sl H':=by
 unfold Io at h
 split at h
 case h_2=>cases h
 rename_i kt e q hsh
 obtain ⟨s,rfl,rfl⟩:=hx.inv_str
 have hu:=Gc hsh
 have tup0:∀ sh w,VP Γ sh w (.tup []) (.tuple #[]):=λ_ _=>VP.mk_tup rfl λj hj=>by simp at hj
 split at h
 ·rename_i hks
  have hk:=S8 hks
  obtain rfl:=hm.inv_nilm
  exact ⟨_,h,(QV.val (V:=.tuple #[]) rfl (tup0 _ _) λw' _=>by simp [Builtin.delete_,run_underlying hu,MapKept.run_checkKey (n:=9999) hk (show MapKept.IsKey .string (.string s) from trivial)]).wv hH⟩
 ·rename_i b hks
  have hk:=S8 hks
  split at h
  ·rename_i a ents hb
   obtain ⟨g,es,ck,hg,rfl,hh,hMR⟩:=hH.ms' hb hm
   obtain ⟨es',ck',hr,hMR'⟩:=JZ (s:=s) (ts:=ts) (ty:=ty) hu hk hh hMR
   exact ⟨_,h,Mp hH hb hg hh rfl hr hMR' (by simp [Blk.nms]) (.inr ⟨a,_,rfl,BO _ _ _⟩) tup0 rfl⟩
  ·rename_i ents hb
   obtain ⟨g,es,ck,hg,rfl,hh,hMR,hnm⟩:=hH.mp' hb hm
   obtain ⟨es',ck',hr,hMR'⟩:=JZ (s:=s) (ts:=ts) (ty:=ty) hu hk hh hMR
   exact ⟨_,h,Mp hH hb hg hh rfl hr hMR' (λc hc=>hnm c (BP ents _ c hc)) (.inl rfl) tup0 rfl⟩
  ·cases h
 ·cases h
end
section
variable {σ R : Type} {r : R} {C : Cfg} {I : σ -> (Nat -> Prop) -> (Nat -> Prop) -> World -> Prop} {Γ : Ctx} {Φ : Nat -> Prop} {st : St σ} {a : Act} {w : World} {cl : D0} {yh : Yh σ} {o : Oper} {k : St σ -> Option R}
theorem SI.opnd (S:SI C I Γ Φ st a.tmps w) (x:Operand):VP Γ (A1 st.hp) w (opnd C st.sl x) (a.eval x)/\∀ c∈(opnd C st.sl x).nms,c<st.hp.length:=
 TB (ds:=a.defers) S.g S.sr x
def Aw7 (C:Cfg) (I:σ->(Nat->Prop)->(Nat->Prop)->World->Prop) (Γ:Ctx) (Φ:Nat->Prop) (st:St σ) (a:Act) (w:World) (o:Oper) (k:St σ->Option R) (r:R):Prop:=
 ∃ V st',k st'=some r/\(∀ w':World,Ext w w'->(execOp a.eval o).run C.P w' = .ok (.value V) w')/\SI C I Γ Φ st' (a.put o.dst V).tmps w/\Stp C Γ st.hp w noΦ Γ st'.hp w noΦ
theorem SI.put (S:SI C I Γ Φ st a.tmps w) {v:PV} {V:Value} (hv:VP Γ (A1 st.hp) w v V) (hn:∀ c∈v.nms,c<st.hp.length):SI C I Γ Φ { st with sl:=G8 o.dst v st.sl } (a.put o.dst V).tmps w:=
 ⟨S.hr,S.sr.put (ds:=a.defers) o hv hn,S.g,S.inv,S.dis⟩
theorem QV.out {m:Sem Value} {v:PV} (S:SI C I Γ Φ st a.tmps w) (h:QV C.P Γ st.hp w m v) (hk:k { st with sl:=G8 o.dst v st.sl } = some r) (he:execOp a.eval o=(do pure (.value (<-m)))):Aw7 C I Γ Φ st a w o k r:=by
 obtain ⟨hn,V,hv,hq⟩:=h
 refine ⟨V,_,hk,λw' hw=>?_,S.put hv hn,Stp.refl S.hr⟩
 rw [he]
 simp [hq w' hw]
theorem QV0.out {m:Sem Value} {v:PV} (S:SI C I Γ Φ st a.tmps w) (h:QV0 C.P Γ st.hp w m v) (hk:k { st with sl:=G8 o.dst v st.sl } = some r) (he:execOp a.eval o=(do pure (.value (<-m)))) :
  ∃ V st',k st'=some r/\(∀ w':World,(execOp a.eval o).run C.P w' = .ok (.value V) w')/\SI C I Γ Φ st' (a.put o.dst V).tmps w/\Stp C Γ st.hp w noΦ Γ st'.hp w noΦ:=by
 obtain ⟨hn,V,hv,hq⟩:=h
 refine ⟨V,_,hk,λw'=>?_,S.put hv hn,Stp.refl S.hr⟩
 rw [he]
 simp [hq w']
theorem QV.pure {P:Program} {H:List Blk} {v:PV} {V:Value} (hv:VP Γ (A1 H) w v V) (hn:∀ c∈v.nms,c<H.length):QV P Γ H w (pure V) v:=⟨hn,V,hv,λ_ _=>rfl⟩
theorem SI.ov (S:SI C I Γ Φ st a.tmps w) (x:Option Operand):OV Γ (A1 st.hp) w (Hn (Go.Proofs.YtbpokbigoebocaaGreatDoor.E.opnd C st.sl) x) (x.map a.eval):=by
 cases x with
 | none=>trivial
 | some x=>exact (S.opnd x).1
theorem Z2 {α β:Type} {f:α->β} {x:Option α}:(Hn f x).isSome=x.isSome:=by cases x<;>rfl
theorem SI.parts (S:SI C I Γ Φ st a.tmps w):∀ (ps:List (Nat × Operand)),PR Γ (A1 st.hp) w (ps.map λ(i,x)=>(i,Go.Proofs.YtbpokbigoebocaaGreatDoor.E.opnd C st.sl x)) (ps.map λ(i,x)=>(i,a.eval x))/\∀ p∈(ps.map λ(i,x)=>(i,Go.Proofs.YtbpokbigoebocaaGreatDoor.E.opnd C st.sl x)),∀ c∈p.2.nms,c<st.hp.length
 | []=>⟨trivial,by simp⟩
 | (i,x)::ps=>by
  obtain ⟨h1,h2⟩:=S.parts ps
  refine ⟨⟨rfl,(S.opnd x).1,h1⟩,λp hp=>?_⟩
  rcases List.mem_cons.1 hp with rfl | hp
  ·exact (S.opnd x).2
  grind
theorem SI.list (S:SI C I Γ Φ st a.tmps w) (xs:Array Operand):CR Γ (A1 st.hp) w (xs.toList.map (Go.Proofs.YtbpokbigoebocaaGreatDoor.E.opnd C st.sl)) (xs.map a.eval)/\∀ c∈B3 (xs.toList.map (Go.Proofs.YtbpokbigoebocaaGreatDoor.E.opnd C st.sl)),c<st.hp.length:=by
 refine ⟨⟨by simp,λj hj=>?_⟩,λc hc=>?_⟩
 ·have hj':j<xs.size:=by simpa using hj
  exact ⟨a.eval xs[j],by simp [hj'],by simpa using (S.opnd xs[j]).1⟩
 ·obtain ⟨j,hj,hm⟩:=A8.1 hc
  have hj':j<xs.size:=by simpa using hj
  exact (S.opnd xs[j]).2 c (by simpa using hm)
theorem SM {f:Nat} {x y:List PV} {A B:Array Value} {sh:Nat->Option Shp} (hx:CR Γ sh w x A) (hy:CR Γ sh w y B):VP Γ sh w (Aq1 (.func f) x y) (.func (.func f) A B):=by
 unfold Aq1
 split
 ·rename_i xs ys h1 h2
  obtain ⟨e1,e2⟩:=G6 (As:=A.toList) h1 (by simpa using hx.1.symm) (λj hj=>by obtain ⟨U,e,k⟩:=hx.2 j hj;exact ⟨U,by simpa using e,k⟩)
  obtain ⟨f1,f2⟩:=G6 (As:=B.toList) h2 (by simpa using hy.1.symm) (λj hj=>by obtain ⟨U,e,k⟩:=hy.2 j hj;exact ⟨U,by simpa using e,k⟩)
  refine .s _ _ (.fn _ xs ys A B (λj=>A.getD j undef) (λj=>B.getD j undef) (by simp) (by simpa using e1.symm) (by simpa using f1.symm) (λj hj=>?_) (λj hj=>?_) (λj hj=>?_) (λj hj=>?_))
  ·simp_all
  ·simp_all
  ·obtain ⟨U,e,k⟩:=e2 j hj
   simp_all
  ·obtain ⟨U,e,k⟩:=f2 j hj
   simp_all
 ·refine .fnr _ x y A B (λj=>A.getD j undef) (λj=>B.getD j undef) (by simp) hx.1 hy.1 (λj hj=>?_) (λj hj=>?_) (λj hj=>?_) (λj hj=>?_)
  ·obtain ⟨U,e,_⟩:=hx.2 j hj;rw [Array.getD_eq_getD_getElem?,e];rfl
  ·obtain ⟨U,e,_⟩:=hy.2 j hj;rw [Array.getD_eq_getD_getElem?,e];rfl
  ·obtain ⟨U,e,k⟩:=hx.2 j hj;rw [Array.getD_eq_getD_getElem?,e];exact k
  ·obtain ⟨U,e,k⟩:=hy.2 j hj;rw [Array.getD_eq_getD_getElem?,e];exact k
theorem Aq2 {f:Fn} {x y:List PV}:∀ c∈(Aq1 f x y).nms,c∈B3 x\/c∈B3 y:=by
 intro c hc
 unfold Aq1 at hc
 split at hc
 ·simp [PV.nms] at hc
 ·simpa [PV.nms] using hc
theorem Bd4 {α β:Type} {f:α->β} {xs:Array α} {x:β} (h:xs.toList.map f=[x]):∃ x0,xs = #[x0]/\f x0=x:=by
 obtain ⟨l⟩:=xs
 simp_all
theorem JF {α β:Type} {f:α->β} {xs:Array α} {x y:β} (h:xs.toList.map f=[x,y]):∃ x0 y0,xs = #[x0,y0]/\f x0=x/\f y0=y:=by
 obtain ⟨l⟩:=xs
 match l,h with
 | [a,b],h=>exact ⟨a,b,rfl,by simpa using h⟩
theorem K4 {ρ:Operand->Value} {c:Call} {b:Builtin} (hop:o.op = .call c) (hcb:c.callee = .builtin b) :
  ∃ cs,execOp ρ o=builtin b c.argTypes o.type cs (c.args.map ρ):=by
 simp only [execOp,hop,resolve,hcb,pure_bind,invoke]
 exact ⟨_,rfl⟩
theorem SI.args_ints (S:SI C I Γ Φ st a.tmps w) {xs:Array Operand} {kd:IntKind} {x y:Int} (h:xs.toList.map (Go.Proofs.YtbpokbigoebocaaGreatDoor.E.opnd C st.sl)=[.s (.int kd x),.s (.int kd y)]):xs.map a.eval = #[.int kd x,.int kd y]:=by
 obtain ⟨x0,y0,rfl,e1,e2⟩:=JF h
 have h1:=(S.opnd x0).1
 have h2:=(S.opnd y0).1
 rw [e1] at h1;rw [e2] at h2
 simp [h1.inv_int,h2.inv_int]
theorem Ir (hq:F2 C o.op=true) (h:opK C cl yh o st k=some r) (S:SI C I Γ Φ st a.tmps w):Aw7 C I Γ Φ st a w o k r:=by
 unfold opK at h
 dsimp only at h
 split at h
 ·rename_i x hop
  exact (QV.pure (P:=C.P) (S.opnd x).1 (S.opnd x).2).out S h (by simp [execOp,hop])
 ·rename_i x hop
  split at h
  ·rename_i hx
   have hv:=(S.opnd x).1
   rw [hx] at hv
   refine ⟨a.eval x,_,h,λw' hw=>by simp only [execOp,hop,Sem.run_pure],⟨SW S.hr rfl (.inl ⟨rfl,rfl⟩),?_,S.g,S.inv,S.dis⟩,HH S.hr⟩
   refine SR.put (ds:=a.defers) (SR.grow (Mq _ S.hr) S.sr) o ?_ (by simp [PV.nms])
   rw [hv.inv_nsl]
   exact .flv _ _ _ (by rw [D4];rfl)
  ·exact (QV.pure (P:=C.P) (S.opnd x).1 (S.opnd x).2).out S h (by simp [execOp,hop])
 ·rename_i c x y hop
  split at h
  ·rename_i t hc
   have hv:=(S.opnd c).1
   rw [hc] at hv
   have hb:=hv.inv_bool
   have he:execOp a.eval o=(do Pure.pure (Next.value (if <-asBool (a.eval c) then a.eval x else a.eval y))):=by simp [execOp,hop]
   cases t with
   | true=>
    simp only [Ai,cond_true] at h
    refine ⟨_,_,h,λw' hw=>?_,S.put (S.opnd x).1 (S.opnd x).2,Stp.refl S.hr⟩
    rw [he,hb];simp [asBool]
   | false=>
    simp only [Ai,cond_false] at h
    refine ⟨_,_,h,λw' hw=>?_,S.put (S.opnd y).1 (S.opnd y).2,Stp.refl S.hr⟩
    rw [he,hb];simp [asBool]
  ·cases h
 ·rename_i hop;rw [hop] at hq;simp [F2] at hq
 ·rename_i hop;rw [hop] at hq;simp [F2] at hq
 ·rename_i t parts hop
  obtain ⟨h1,h2⟩:=S.parts parts.toList
  obtain ⟨v,hk,hv⟩:=Le (ps:=parts.map λ(i,x)=>(i,a.eval x)) h (by rw [Array.toList_map];exact h1) h2
  exact hv.qv.out S hk (by simp [execOp,hop])
 ·rename_i hop;rw [hop] at hq;simp [F2] at hq
 ·rename_i t x hop
  obtain ⟨v,hk,hv⟩:=Rk S.hr h (S.opnd x).1
  exact hv.out S hk (by simp [execOp,hop])
 ·rename_i hop;rw [hop] at hq;simp [F2] at hq
 ·rename_i x hop
  split at h
  ·rename_i hn
   have hv:=(S.opnd x).1
   refine ⟨a.eval x,_,h,λw' hw=>?_,S.put hv (S.opnd x).2,Stp.refl S.hr⟩
   simp only [execOp,hop]
   unfold SU at hn
   split at hn
   ·rename_i hx;rw [hx] at hv
    obtain ⟨ad,e⟩:=hv.inv_ptr
    simp_all
   ·rename_i hx;rw [hx] at hv
    obtain ⟨ad,e⟩:=hv.inv_sp
    simp_all
   ·rename_i hx;rw [hx] at hv
    obtain ⟨A,B,e⟩:=hv.inv_fn
    simp_all
   ·rename_i hx;rw [hx] at hv
    obtain ⟨A,B,e⟩:=hv.inv_fnr
    simp_all
   grind
  ·cases h
 ·rename_i op t x y _ hop
  obtain ⟨v,hk,hv⟩:=Vb (ox:=x) (oy:=y) h (S.opnd x).1 (S.opnd y).1
  exact hv.qv.out S hk (by simp only [execOp,hop])
 ·rename_i op t x hop
  obtain ⟨v,hk,hv⟩:=Ae0 (P:=C.P) h (S.opnd x).1
  exact hv.out S hk (by simp only [execOp,hop])
 ·rename_i src dst x hop
  split at h
  ·rename_i e hsh
   rw [hop] at hq;simp [F2,hsh] at hq
  ·obtain ⟨v,hk,hv⟩:=JV S.hr h (S.opnd x).1
   exact hv.out S hk (by simp only [execOp,hop])
 ·rename_i g x y hop
  obtain ⟨h1,h2⟩:=S.list x
  obtain ⟨h3,h4⟩:=S.list y
  exact (QV.pure (P:=C.P) (SM h1 h3) (λc hc=>(Aq2 c hc).elim (h2 c) (h4 c))).out S h (by simp [execOp,hop,Instr.makeFunc])
 ·rename_i hop;rw [hop] at hq;simp [F2] at hq
 ·rename_i t x lo hi mx hop
  have hlo:=S.ov lo
  have hhi:=S.ov hi
  have hmx:=S.ov mx
  split at h
  ·rename_i n e b hsh hx
   split at h
   ·rename_i v e' sz els hb
    split at h
    ·rename_i hc
     obtain ⟨h1,h2⟩:=A7 h
     simp only [decide_eq_true_eq] at h1
     have hv:=(S.opnd x).1
     rw [hx] at hv
     obtain ⟨v,hk,hv⟩:=Gl S.hr h2 hsh hc.1 hc.2.1 hb h1 (by omega) (by simp only [maxLen];omega) hv hlo hhi hmx
     exact hv.qv.out S hk (by simp only [execOp,hop])
    grind
   ·cases h
  ·split at h
   ·rename_i hm
    obtain ⟨v,hk,hv⟩:=Nh S.hr h (S.opnd x).1 (S.opnd x).2 hlo hhi hmx (by rw [Z2,Z2];intro h;simpa [h] using hm)
    exact hv.qv.out S hk (by simp only [execOp,hop])
   ·cases h
 ·rename_i t x f hop
  obtain ⟨v,hk,hv⟩:=Ep h (S.opnd x).1 (S.opnd x).2
  exact hv.qv.out S hk (by simp only [execOp,hop])
 ·rename_i t x f hop
  obtain ⟨v,hk,hv⟩:=GC h (S.opnd x).1 (S.opnd x).2
  exact hv.out S hk (by simp only [execOp,hop])
 ·rename_i t x i hop
  obtain ⟨v,hk,hv⟩:=Eu S.hr h (S.opnd x).1 (S.opnd i).1 (S.opnd x).2
  exact hv.qv.out S hk (by simp only [execOp,hop])
 ·rename_i t x i hop
  obtain ⟨v,hk,hv⟩:=GJ h (S.opnd x).1 (S.opnd i).1 (S.opnd x).2
  exact hv.out S hk (by simp only [execOp,hop])
 ·rename_i hop;rw [hop] at hq;simp [F2] at hq
 ·rename_i hop;rw [hop] at hq;simp [F2] at hq
 ·rename_i hop;rw [hop] at hq;simp [F2] at hq
 ·rename_i t x i ok hop
  obtain ⟨v,hk,hv⟩:=Ys S.hr h (S.opnd x).1 (S.opnd i).1
  exact hv.out S hk (by simp only [execOp,hop])
 ·rename_i hop;rw [hop] at hq;simp [F2] at hq
 ·rename_i t i hop
  split at h
  ·rename_i vs hx
   split at h
   ·rename_i v hvs
    have hv:=(S.opnd t).1
    have hn:=(S.opnd t).2
    rw [hx] at hv hn
    obtain ⟨A,e,hA,hc⟩:=hv.inv_tup
    obtain ⟨hlt,hve⟩:=List.getElem?_eq_some_iff.1 hvs
    obtain ⟨U,e1,k1⟩:=hc i hlt
    rw [hve] at k1
    refine ⟨U,_,h,λw' hw=>?_,S.put k1 (λc hc=>hn c (by simp only [PV.nms];exact A8.2 ⟨i,hlt,by rw [hve];exact hc⟩)),Stp.refl S.hr⟩
    simp only [execOp,hop,e,Instr.extract,e1]
    rfl
   ·cases h
  ·cases h
 ·rename_i c hop
  split at h
  ·rename_i b hcb
   unfold Z6 at h
   dsimp only at h
   split at h
   ·rename_i t rest x hts hargs
    obtain ⟨x0,hx0,rfl⟩:=Bd4 hargs
    obtain ⟨v,hk,hv⟩:=RX (ts:=rest) (ty:=o.type) S.hr h (S.opnd x0).1
    refine hv.out S hk ?_
    obtain ⟨cs,he⟩:=K4 (ρ:=a.eval) hop hcb
    have hts':c.argTypes=(t::rest).toArray:=by rw [<-hts]
    rw [he,hx0,hts']
    simp [builtin]
   ·rw [hop] at hq;simp [F2,hcb] at hq
   ·rw [hop] at hq;simp [F2,hcb] at hq
   ·obtain ⟨v,x,y,kd,hk,hxs,hv⟩:=Ji (P:=C.P) (Γ:=Γ) (H:=st.hp) (w:=w) c.argTypes o.type h
    refine hv.out S hk ?_
    obtain ⟨cs,he⟩:=K4 (ρ:=a.eval) hop hcb
    rw [he,S.args_ints hxs]
    simp [builtin]
   ·obtain ⟨v,x,y,kd,hk,hxs,hv⟩:=Ji (P:=C.P) (Γ:=Γ) (H:=st.hp) (w:=w) c.argTypes o.type h
    refine hv.out S hk ?_
    obtain ⟨cs,he⟩:=K4 (ρ:=a.eval) hop hcb
    rw [he,S.args_ints hxs]
    simp [builtin]
   ·rw [hop] at hq;simp [F2,hcb] at hq
   ·rw [hop] at hq;simp [F2,hcb] at hq
   ·cases h
  ·rename_i hcb;rw [hop] at hq;simp [F2,hcb] at hq
  ·cases h
 ·cases h
theorem XP {t q:Nat} {op:BinOp} {x y:Operand} (hop:o.op = .binOp op t x y q) (h:opK C cl yh o st k=some r) (S:SI C I Γ Φ st a.tmps w) :
  ∃ V st',k st'=some r/\(∀ w':World,(execOp a.eval o).run C.P w' = .ok (.value V) w')/\SI C I Γ Φ st' (a.put o.dst V).tmps w/\Stp C Γ st.hp w noΦ Γ st'.hp w noΦ:=by
 simp only [opK,hop] at h
 obtain ⟨v,hk,hv⟩:=Vb (ox:=x) (oy:=y) h (S.opnd x).1 (S.opnd y).1
 exact hv.out S hk (by simp only [execOp,hop])
theorem KH {t f:Nat} {x:Operand} (hop:o.op = .fieldAddr t x f) (h:opK C cl yh o st k=some r) (S:SI C I Γ Φ st a.tmps w) :
  ∃ V st',k st'=some r/\(∀ w':World,(execOp a.eval o).run C.P w' = .ok (.value V) w')/\SI C I Γ Φ st' (a.put o.dst V).tmps w/\Stp C Γ st.hp w noΦ Γ st'.hp w noΦ:=by
 simp only [opK,hop] at h
 obtain ⟨v,hk,hv⟩:=Ep h (S.opnd x).1 (S.opnd x).2
 exact hv.out S hk (by simp only [execOp,hop])
theorem JN {t:Nat} {parts:Array (Nat × Operand)} (hop:o.op = .build t parts) (h:opK C cl yh o st k=some r) (S:SI C I Γ Φ st a.tmps w) :
  ∃ V st',k st'=some r/\(∀ w':World,(execOp a.eval o).run C.P w' = .ok (.value V) w')/\SI C I Γ Φ st' (a.put o.dst V).tmps w/\Stp C Γ st.hp w noΦ Γ st'.hp w noΦ:=by
 simp only [opK,hop] at h
 obtain ⟨h1,h2⟩:=S.parts parts.toList
 obtain ⟨v,hk,hv⟩:=Le (ps:=parts.map λ(i,x)=>(i,a.eval x)) h (by rw [Array.toList_map];exact h1) h2
 exact hv.out S hk (by simp only [execOp,hop])
theorem LC {t:Nat} {x i:Operand} (hop:o.op = .indexAddr t x i) (h:opK C cl yh o st k=some r) (S:SI C I Γ Φ st a.tmps w) :
  ∃ V st',k st'=some r/\(∀ w':World,(execOp a.eval o).run C.P w' = .ok (.value V) w')/\SI C I Γ Φ st' (a.put o.dst V).tmps w/\Stp C Γ st.hp w noΦ Γ st'.hp w noΦ:=by
 simp only [opK,hop] at h
 obtain ⟨v,hk,hv⟩:=Eu S.hr h (S.opnd x).1 (S.opnd i).1 (S.opnd x).2
 exact hv.out S hk (by simp only [execOp,hop])
theorem MN {t:Nat} {x:Operand} {lo hi mx:Option Operand} (hop:o.op = .slice t x lo hi mx) (h:opK C cl yh o st k=some r) (S:SI C I Γ Φ st a.tmps w) :
  ∃ V st',k st'=some r/\(∀ w':World,(execOp a.eval o).run C.P w' = .ok (.value V) w')/\SI C I Γ Φ st' (a.put o.dst V).tmps w/\Stp C Γ st.hp w noΦ Γ st'.hp w noΦ:=by
 simp only [opK,hop] at h
 have hlo:=S.ov lo
 have hhi:=S.ov hi
 have hmx:=S.ov mx
 split at h
 ·rename_i n e b hsh hx
  split at h
  ·rename_i v e' sz els hb
   split at h
   ·rename_i hc
    obtain ⟨h1,h2⟩:=A7 h
    simp only [decide_eq_true_eq] at h1
    have hv:=(S.opnd x).1
    rw [hx] at hv
    obtain ⟨v,hk,hv⟩:=Gl S.hr h2 hsh hc.1 hc.2.1 hb h1 (by omega) (by simp only [maxLen];omega) hv hlo hhi hmx
    exact hv.out S hk (by simp only [execOp,hop])
   ·cases h
  ·cases h
 ·split at h
  ·rename_i hm
   obtain ⟨v,hk,hv⟩:=Nh S.hr h (S.opnd x).1 (S.opnd x).2 hlo hhi hmx (by rw [Z2,Z2];intro h;simpa [h] using hm)
   exact hv.out S hk (by simp only [execOp,hop])
  ·cases h
end
def Pd:Op->Bool
 | .call c=>match c.callee with
  | .builtin _=>false
  | _=>true
 | _=>false
section
variable {σ R : Type} {r : R} {C : Cfg} {I : σ -> (Nat -> Prop) -> (Nat -> Prop) -> World -> Prop} {Γ : Ctx} {Φ : Nat -> Prop} {st : St σ} {a : Act} {w : World} {cl : D0} {yh : Yh σ} {o : Oper} {k : St σ -> Option R}
def Aw5 (C:Cfg) (I:σ->(Nat->Prop)->(Nat->Prop)->World->Prop) (Γ:Ctx) (Φ:Nat->Prop) (st:St σ) (a:Act) (w:World) (o:Oper) (k:St σ->Option R) (r:R):Prop:=
 ∃ V w' Γ' st',k st'=some r/\((execOp a.eval o).run C.P w = .ok (.value V) w'\/(V=undef/\(execOp a.eval o).run C.P w = .ok .skip w'))/\SI C I Γ' Φ st' (a.put o.dst V).tmps w'/\Stp C Γ st.hp w Φ Γ' st'.hp w' Φ
theorem Stp.lift {Γ':Ctx} {H H':List Blk} {w':World} (h:Stp C Γ H w noΦ Γ' H' w' noΦ) (Φ:Nat->Prop):Stp C Γ H w Φ Γ' H' w' Φ:=
 ⟨h.os,h.tape,h.output,h.size,h.sub,h.stnew,h.own,λ_ h=>.inl h,λg hg hn _=>h.frame g hg hn (λx=>x),h.yv,h.len,h.keep⟩
theorem Aw7.loud (h:Aw7 C I Γ Φ st a w o k r):Aw5 C I Γ Φ st a w o k r:=by
 obtain ⟨V,st',h1,h2,h3,h4⟩:=h
 exact ⟨V,w,Γ,st',h1,.inl (h2 w (Ext.refl w)),h3,h4.lift Φ⟩
theorem SI.after (hI:HI I) (S:SI C I Γ Φ st a.tmps w) {w':World} {Γ':Ctx} {H':List Blk} {sl':List PV} {v:PV} {V:Value} (h:Stp C Γ st.hp w noΦ Γ' H' w' noΦ) (hr:HR Γ' H' w') (hs:SR Γ st.hp w st.sl a.tmps->SR Γ' H' w' sl' a.tmps) (hv:VP Γ' (A1 H') w' v V) (hn:∀ c∈v.nms,c<H'.length) :
  SI C I Γ' Φ { sl:=G8 o.dst v sl',hp:=H',s:=st.s } (a.put o.dst V).tmps w':=
 S.step hI (h.lift Φ) (λg hg=>h.frame g (hI.foot _ _ _ _ S.inv g hg).1 (λb hb=>S.dis b g hb hg) (λx=>x)) hr ((hs S.sr).put (ds:=a.defers) o hv hn)
theorem WV.out {m:Sem Value} {v:PV} {sl':List PV} {H':List Blk} (hI:HI I) (S:SI C I Γ Φ st a.tmps w) (h:WV C Γ st.hp w st.sl a.tmps m v sl' H') (hk:k { sl:=G8 o.dst v sl',hp:=H',s:=st.s } = some r) (he:execOp a.eval o=(do pure (.value (<-m)))):Aw5 C I Γ Φ st a w o k r:=by
 obtain ⟨V,w',Γ',h1,h2,h3,h4,h5,h6⟩:=h
 refine ⟨V,w',Γ',_,hk,.inl ?_,S.after hI h2 h3 h4 h5 h6,h2.lift Φ⟩
 simp_all
theorem WV.outU {m:Sem Unit} {v:PV} {sl':List PV} {H':List Blk} (hI:HI I) (S:SI C I Γ Φ st a.tmps w) (h:WV C Γ st.hp w st.sl a.tmps (do m;pure undef) v sl' H') (hk:k { sl:=G8 o.dst v sl',hp:=H',s:=st.s } = some r) (he:execOp a.eval o=(do m;pure .skip)):Aw5 C I Γ Φ st a w o k r:=by
 obtain ⟨V,w',Γ',h1,h2,h3,h4,h5,h6⟩:=h
 have key:V=undef/\m.run C.P w = .ok () w':=by
  simp only [Sem.run_bind] at h1
  cases hm:m.run C.P w with
  | ok u w1=>rw [hm] at h1;simp at h1;exact ⟨h1.1.symm,by rw [h1.2]⟩
  | halt x w1=>rw [hm] at h1;simp [Result.andThen] at h1
 refine ⟨V,w',Γ',_,hk,.inr ⟨key.1,?_⟩,S.after hI h2 h3 h4 h5 h6,h2.lift Φ⟩
 simp_all
theorem LY (hI:HI I) (hq:Pd o.op=false) (h:opK C cl yh o st k=some r) (S:SI C I Γ Φ st a.tmps w):Aw5 C I Γ Φ st a w o k r:=by
 by_cases hqq:F2 C o.op=true
 ·exact (Ir hqq h S).loud
 have h0:=h
 unfold opK at h
 dsimp only at h
 split at h
 ·rename_i hop;exact absurd (by rw [hop];rfl) hqq
 ·rename_i hop;exact absurd (by rw [hop];rfl) hqq
 ·rename_i hop;exact absurd (by rw [hop];rfl) hqq
 ·rename_i e hop
  by_cases hok:(C.ti e).ok=true
  ·obtain ⟨i,z,hi,hz,hsz,hCR⟩:=Z4 (Γ:=Γ) (sh:=A1 st.hp) (w:=w) hok
   obtain ⟨v,H',hk,hv⟩:=Vc (V:=z) (sl:=st.sl) (tmps:=a.tmps) (m:=Instr.alloc e true (.tuple #[])) S.hr h hCR (by rw [Ff];simp) (by simp [Instr.alloc,zeroValue,typeInfo,hi,hz,newVar,newRow])
   exact hv.out hI S hk (by simp only [execOp,hop])
  ·simp [Oq,hok] at h
 ·rename_i e x hop
  split at h
  ·rename_i hlen
   by_cases hok:(C.ti e).ok=true
   ·obtain ⟨i,hi,hsz,hpos⟩:=F1 hok
    have hne:(opnd C st.sl x).cells≠[]:=by intro e;rw [e] at hlen;simp at hlen;omega
    obtain ⟨v,H',hk,hv⟩:=Vc (V:=a.eval x) (sl:=st.sl) (tmps:=a.tmps) (m:=Instr.box e (a.eval x)) S.hr h ((S.opnd x).1.cells' hne) (λc hc=>(S.opnd x).2 c (PV.cells_nms c hc)) (by simp [Instr.box,newVar,newRow])
    exact hv.out hI S hk (by simp only [execOp,hop])
   ·simp [Oq,hok] at h
  ·cases h
 ·rename_i hop;exact absurd (by rw [hop];rfl) hqq
 ·rename_i t len parts hop
  obtain ⟨h1,h2⟩:=S.parts parts.toList
  cases hst:C.stab t with
  | true=>
   simp only [hst,cond_true] at h
   obtain ⟨v,hk,hv,_⟩:=El (ps:=parts.map λ(i,x)=>(i,a.eval x)) (sl:=st.sl) (tmps:=a.tmps) S.hr h (by rw [Array.toList_map];exact h1)
   exact hv.out hI S hk (by simp only [execOp,hop])
  | false=>
  simp only [hst,cond_false] at h
  obtain ⟨v,H',hk,hv,_⟩:=Cx (ps:=parts.map λ(i,x)=>(i,a.eval x)) (sl:=st.sl) (tmps:=a.tmps) S.hr h (by rw [Array.toList_map];exact h1)
  exact hv.out hI S hk (by simp only [execOp,hop])
 ·rename_i hop;exact absurd (by rw [hop];rfl) hqq
 ·rename_i t x y hop
  obtain ⟨H',hk,hv⟩:=II (sl:=st.sl) (tmps:=a.tmps) S.hr h (S.opnd x).1 (S.opnd y).1 (S.opnd y).2
  exact hv.outU hI S hk (by simp only [execOp,hop])
 ·rename_i hop;exact absurd (by rw [hop];rfl) hqq
 ·rename_i hop;exact absurd (by rw [hop];rfl) hqq
 ·rename_i hop;exact absurd (by rw [hop];rfl) hqq
 ·rename_i src dst x hop
  split at h
  ·obtain ⟨v,hk,hv⟩:=FE (sl:=st.sl) (tmps:=a.tmps) S.hr h (S.opnd x).1
   exact hv.out hI S hk (by simp only [execOp,hop])
  ·rename_i hne
   refine absurd ?_ hqq
   rw [hop]
   simp only [F2]
   done
 ·rename_i hop;exact absurd (by rw [hop];rfl) hqq
 ·rename_i t l c hop
  obtain ⟨v,H',hk,hv⟩:=Px (sl:=st.sl) (tmps:=a.tmps) S.hr h (S.opnd l).1 (S.opnd c).1
  exact hv.out hI S hk (by simp only [execOp,hop])
 ·rename_i hop;exact absurd (by rw [hop];rfl) hqq
 ·rename_i hop;exact absurd (by rw [hop];rfl) hqq
 ·rename_i hop;exact absurd (by rw [hop];rfl) hqq
 ·rename_i hop;exact absurd (by rw [hop];rfl) hqq
 ·rename_i hop;exact absurd (by rw [hop];rfl) hqq
 ·rename_i t x hop
  split at h
  ·rename_i l hx
   split at h
   ·rename_i hsh
    have hv:=(S.opnd x).1
    rw [hx] at hv
    obtain ⟨s,e,rfl⟩:=hv.inv_str
    have:=Ar6 (C:=C) (s:=s) (sl:=st.sl) (tmps:=a.tmps) S.hr (S8 hsh)
    exact this.out hI S h (by simp only [execOp,hop,e])
   ·cases h
  ·cases h
 ·rename_i it hop
  split at h
  ·rename_i b hx
   have hv:=(S.opnd it).1
   rw [hx] at hv
   split at h
   ·rename_i l p hb
    by_cases hp:p<l.length
    ·simp only [hp,decide_true,Ai,cond_true] at h
     have:=A53 (C:=C) (ty:=o.type) (sl:=st.sl) (tmps:=a.tmps) S.hr hv hb hp
     exact this.out hI S h (by simp only [execOp,hop])
    ·simp only [hp,decide_false,Ai,cond_false] at h
     have:=LU (C:=C) (ty:=o.type) S.hr hv hb hp
     exact (this.out S h (by simp only [execOp,hop])).loud
   ·cases h
  ·cases h
 ·rename_i t hop
  obtain ⟨v,H',hk,hv,_⟩:=Hi (sl:=st.sl) (tmps:=a.tmps) S.hr h
  exact hv.out hI S hk (by simp only [execOp,hop,Option.map_none])
 ·rename_i hop;exact absurd (by rw [hop];rfl) hqq
 ·rename_i t m x y hop
  obtain ⟨H',hk,hv⟩:=Yv (sl:=st.sl) (tmps:=a.tmps) S.hr h (S.opnd m).1 (S.opnd x).1 (S.opnd y).1 (S.opnd y).2
  exact hv.outU hI S hk (by simp only [execOp,hop])
 ·rename_i hop;exact absurd (by rw [hop];rfl) hqq
 ·rename_i c hop
  split at h
  ·rename_i b hcb
   unfold Z6 at h
   dsimp only at h
   split at h
   ·exact absurd (by rw [hop];simp [F2,hcb]) hqq
   ·rename_i t u s x hts hargs
    obtain ⟨s0,x0,hx0,rfl,rfl⟩:=JF hargs
    have hts':c.argTypes=[t,u].toArray:=by rw [<-hts]
    split at h
    ·rename_i hu
     obtain ⟨v,sl',H',hk,hv⟩:=Je (ty:=o.type) (tmps:=a.tmps) S.hr hu h (S.opnd s0).1 (S.opnd x0).1
     refine hv.out hI S hk ?_
     obtain ⟨cs,he⟩:=K4 (ρ:=a.eval) hop hcb
     rw [he,hx0,hts']
     simp [builtin]
    grind
   ·rename_i t u d x hts hargs
    obtain ⟨s0,x0,hx0,rfl,rfl⟩:=JF hargs
    have hts':c.argTypes=[t,u].toArray:=by rw [<-hts]
    obtain ⟨v,H',hk,hv⟩:=JW (u:=u) (ty:=o.type) (sl:=st.sl) (tmps:=a.tmps) S.hr h (S.opnd s0).1 (S.opnd x0).1
    refine hv.out hI S hk ?_
    obtain ⟨cs,he⟩:=K4 (ρ:=a.eval) hop hcb
    rw [he,hx0,hts']
    simp [builtin]
   ·exact absurd (by rw [hop];simp [F2,hcb]) hqq
   ·exact absurd (by rw [hop];simp [F2,hcb]) hqq
   ·rename_i t x hts hargs
    obtain ⟨x0,hx0,rfl⟩:=Bd4 hargs
    have hts':c.argTypes = #[t]:=by rw [<-hts]
    obtain ⟨H',hk,hv⟩:=FW (ty:=o.type) (sl:=st.sl) (tmps:=a.tmps) S.hr h (S.opnd x0).1
    refine hv.out hI S hk ?_
    obtain ⟨cs,he⟩:=K4 (ρ:=a.eval) hop hcb
    rw [he,hx0,hts']
    simp [builtin]
   ·rename_i t rest m x hts hargs
    obtain ⟨m0,x0,hx0,rfl,rfl⟩:=JF hargs
    have hts':c.argTypes=(t::rest).toArray:=by rw [<-hts]
    obtain ⟨H',hk,hv⟩:=Yu (ts:=rest) (ty:=o.type) (sl:=st.sl) (tmps:=a.tmps) S.hr h (S.opnd m0).1 (S.opnd x0).1
    refine hv.out hI S hk ?_
    obtain ⟨cs,he⟩:=K4 (ρ:=a.eval) hop hcb
    rw [he,hx0,hts']
    simp [builtin]
   ·cases h
  ·rename_i hcb;rw [hop] at hq;simp [Pd,hcb] at hq
  ·cases h
 ·cases h
end
theorem Ga (f:Nat->Nat) (l:List PV):rnL f l=l.map (PV.rn f):=by
 induction l with
 | nil=>rfl
 | cons v r ih=>simp [rnL,ih]
theorem N4 (H:List Blk) (l:List PV):I1 H l=l.map (PV.snap H):=by
 induction l with
 | nil=>rfl
 | cons v r ih=>simp [I1,ih]
theorem X2 {l:List PV} (h:Ea l=true):∀ v∈l,v.clean=true:=by
 induction l with
 | nil=>simp
 | cons a l ih=>
  simp only [Ea,Bool.and_eq_true] at h
  grind
mutual
theorem PV.rn_nms (f:Nat->Nat):∀ v:PV,(v.rn f).nms=v.nms.map f
 | .s _=>rfl
 | .nsl=>rfl
 | .fl b=>rfl
 | .vw b _ _=>rfl
 | .ptr b _ _=>rfl
 | .fnr _ x y=>by simp only [PV.rn,PV.nms,List.map_append,Av f x,Av f y]
 | .it b=>rfl
 | .yd=>rfl
 | .agg l=>by simp only [PV.rn,PV.nms,Av f l]
 | .tup l=>by simp only [PV.rn,PV.nms,Av f l]
 | .bad=>rfl
theorem Av (f:Nat->Nat):∀ l:List PV,B3 (rnL f l)=(B3 l).map f
 | []=>rfl
 | v::r=>by simp only [rnL,B3,List.map_append,PV.rn_nms f v,Av f r]
end
theorem Blk.rn_nms (f:Nat->Nat) (x:Blk):(x.rn f).nms=x.nms.map f:=by
 have e:∀ l:List PV,l.map (PV.rn f)=rnL f l:=λl=>(Ga f l).symm
 cases x<;>simp only [Blk.rn,Blk.nms,Av,Yw,List.map_map,List.map_nil]
 rename_i ents
 rw [<-Av,<-e,List.map_map]
 rfl
theorem Blk.rn_shp (f:Nat->Nat) (x:Blk):(x.rn f).shp=x.shp:=by cases x<;>rfl
theorem VS.clean {St St':Nat->Prop} {w w':World} {v:SV} {V:Value} (h:VS St w v V) (hc:v.plain=true):VS St' w' v V:=by
 cases h with
 | bool=>exact .bool _
 | int=>exact .int _ _
 | str=>exact .str _
 | nilp=>exact .nilp
 | nilm=>exact .nilm
 | nilf=>exact .nilf
 | nil=>simp [SV.plain] at hc
 | emp=>simp [SV.plain] at hc
 | sl=>simp [SV.plain] at hc
 | sp=>simp [SV.plain] at hc
 | fn=>simp [SV.plain] at hc
theorem VP.rn {f:Nat->Nat} {Γ Γ':Ctx} {sh sh':Nat->Option Shp} {w:World} (hyv:Γ'.yv = Γ.yv) {v:PV} {V:Value} (h:VP Γ sh w v V) :
  (v.clean=true\/∀ g,Γ.St g->Γ'.St g)->(∀ b∈v.nms,Γ'.nm (f b) = Γ.nm b/\sh' (f b)=sh b)->VP Γ' sh' w (v.rn f) V:=by
 induction h with
 | s v V h=>
  intro hc _
  rcases hc with hc | hc
  ·refine .s _ _ (h.clean ?_)
   cases v<;>simp_all [PV.clean,SV.plain]
  ·exact .s _ _ (h.mono (λ_ _=>rfl) hc)
 | nsl=>intro _ _;exact .nsl
 | flv b e sz h=>intro _ hn;exact .flv _ e sz (by rw [(hn b (by simp [PV.nms])).2];exact h)
 | fl b g v e sz n cap h hv hg hcap hm hs=>
  intro _ hn
  have o:=hn b (by simp [PV.nms])
  exact .fl _ g v e sz n cap (by rw [o.2];exact h) hv (by rw [o.1];exact hg) hcap hm hs
 | vwv b e sz i h=>intro _ hn;exact .vwv _ e sz i (by rw [(hn b (by simp [PV.nms])).2];exact h)
 | vw b i n g a cap v e sz m h hv hg ha hi hcap hm=>
  intro _ hn
  have o:=hn b (by simp [PV.nms])
  exact .vw _ i n g a cap v e sz m (by rw [o.2];exact h) hv (by rw [o.1];exact hg) ha hi hcap hm
 | ptrA b i off g v e sz n h hg=>
  intro _ hn
  have o:=hn b (by simp [PV.nms])
  exact .ptrA _ i off g v e sz n (by rw [o.2];exact h) (by rw [o.1];exact hg)
 | ptrB b off g h hg=>
  intro _ hn
  have o:=hn b (by simp [PV.nms])
  exact .ptrB _ off g (by rw [o.2];exact h) (by rw [o.1];exact hg)
 | fnr g x y A B As Bs hf hA hB ha hb hx hy ihx ihy=>
  intro hc hn
  simp only [PV.rn,Ga]
  refine .fnr g _ _ A B As Bs hf (by simpa using hA) (by simpa using hB) (λj h=>ha j (by simpa using h)) (λj h=>hb j (by simpa using h)) (λj h=>?_) (λj h=>?_)
  ·have hj:j<x.length:=by simpa using h
   rw [List.getElem_map]
   refine ihx j hj (hc.imp (λe=>?_) id) (λb hb=>hn b (by simp only [PV.nms,List.mem_append];exact .inl (A8.2 ⟨j,hj,hb⟩)))
   simp only [PV.clean,Bool.and_eq_true] at e
   exact X2 e.1 _ (List.getElem_mem hj)
  ·have hj:j<y.length:=by simpa using h
   rw [List.getElem_map]
   refine ihy j hj (hc.imp (λe=>?_) id) (λb hb=>hn b (by simp only [PV.nms,List.mem_append];exact .inr (A8.2 ⟨j,hj,hb⟩)))
   simp only [PV.clean,Bool.and_eq_true] at e
   exact X2 e.2 _ (List.getElem_mem hj)
 | it b g h hg=>
  intro _ hn
  have o:=hn b (by simp [PV.nms])
  exact .it _ g (by rw [o.2];exact h) (by rw [o.1];exact hg)
 | mpv b g h hg=>
  intro _ hn
  have o:=hn b (by simp [PV.nms])
  exact .mpv _ g (by rw [o.2];exact h) (by rw [o.1];exact hg)
 | yd=>intro _ _;rw [<-hyv];exact .yd
 | agg l A As hA ha hl ih=>
  intro hc hn
  simp only [PV.rn,Ga]
  refine .agg _ A As (by simpa using hA) (λj h=>ha j (by simpa using h)) (λj h=>?_)
  have hj:j<l.length:=by simpa using h
  rw [List.getElem_map]
  refine ih j hj (hc.imp (λe=>?_) id) (λb hb=>hn b (by simp only [PV.nms];exact A8.2 ⟨j,hj,hb⟩))
  simp only [PV.clean] at e
  exact X2 e _ (List.getElem_mem hj)
 | tup l A As hA ha hl ih=>
  intro hc hn
  simp only [PV.rn,Ga]
  refine .tup _ A As (by simpa using hA) (λj h=>ha j (by simpa using h)) (λj h=>?_)
  have hj:j<l.length:=by simpa using h
  rw [List.getElem_map]
  refine ih j hj (hc.imp (λe=>?_) id) (λb hb=>hn b (by simp only [PV.nms];exact A8.2 ⟨j,hj,hb⟩))
  simp only [PV.clean] at e
  exact X2 e _ (List.getElem_mem hj)
 | bad V=>intro _ _;exact .bad V
theorem Bi9 (f:Nat->Nat) (a:Bool) (l:List SV):(svV a l).rn f=svV a l:=by
 cases a with
 | true=>simp only [svV,cond_true,PV.rn,Ga,List.map_map];rfl
 | false=>simp only [svV,cond_false];split<;>rfl
theorem Ac9 {a:Bool} {l:List SV} (h:l.all SV.plain=true):(svV a l).clean=true:=by
 have key:∀ x:SV,x.plain=true->(PV.s x).clean=true:=λx hx=>by cases x<;>first | rfl | cases hx
 cases a with
 | true=>
  simp only [svV,cond_true,PV.clean]
  induction l with
  | nil=>rfl
  | cons x l ih=>
   simp only [List.all_cons,Bool.and_eq_true] at h
   simp only [List.map_cons,Ea,Bool.and_eq_true]
   exact ⟨key x h.1,ih h.2⟩
 | false=>
  simp only [svV,cond_false]
  split
  ·rename_i x
   exact key x (by simpa using h)
  ·rfl
theorem BR.rn {f:Nat->Nat} {Γ Γ':Ctx} {sh sh':Nat->Option Shp} {w:World} (hyv:Γ'.yv = Γ.yv) {b b':Nat} {x:Blk} (h:BR Γ sh w b x) (hc:x.clean=true\/∀ g,Γ.St g->Γ'.St g) (hb:Γ'.nm b' = Γ.nm b)
  (hn:∀ c∈x.nms,Γ'.nm (f c) = Γ.nm c/\sh' (f c)=sh c):BR Γ' sh' w b' (x.rn f):=by
 cases x with
 | arr v e sz els=>
  rcases h with h | ⟨hn,g,cur,h1,h2,h3,h4,h5⟩
  ·exact .inl h
  ·refine .inr ⟨hn,g,cur,by rw [hb];exact h1,h2,h3,h4,λi hi j hj=>?_⟩
   obtain ⟨V,e1,e2⟩:=h5 i hi j hj
   refine ⟨V,e1,?_⟩
   rcases hc with hc | hc
   ·simp only [Blk.clean,List.all_eq_true] at hc
    exact e2.clean (hc _ (List.getElem_mem hi) _ (List.getElem_mem hj))
   ·exact e2.mono (λ_ _=>rfl) hc
 | box cells=>
  obtain ⟨g,cur,e,h1,h2,h3,h4⟩:=h
  simp only [Blk.rn,Ga]
  refine ⟨g,cur,e,by rw [hb];exact h1,h2,by simpa using h3,λj hj=>?_⟩
  have hj':j<cells.length:=by simpa using hj
  obtain ⟨V,e1,e2⟩:=h4 j hj'
  rw [List.getElem_map]
  refine ⟨V,e1,e2.rn hyv (hc.imp (λe=>?_) id) (λc hc=>hn c (by simp only [Blk.nms];exact A8.2 ⟨j,hj',hc⟩))⟩
  simp only [Blk.clean] at e
  exact X2 e _ (List.getElem_mem hj')
 | iter s p=>
  obtain ⟨g,s',h1,h2,h3⟩:=h
  exact ⟨g,s',by rw [hb];exact h1,h2,h3⟩
 | mp ents=>
  obtain ⟨g,es,ck,h1,h2,h3⟩:=h
  exact ⟨g,es,ck,by rw [hb];exact h1,h2,h3.map λv hv V k=>k.rn hyv (hc.imp (λe=>X2 e v hv) id) λc hc=>hn c (Pz hv c hc)⟩
 | ms a ents=>
  obtain ⟨g,es,ck,h1,h2,h3⟩:=h
  refine ⟨g,es,ck,by rw [hb];exact h1,h2,h3.imp λv hv V k=>?_⟩
  obtain ⟨e,he,rfl⟩:=Tm hv
  have:=k.rn (f:=f) (sh':=sh') hyv (hc.imp (λq=>Ac9 (List.all_eq_true.1 q e he)) id) (λc hc=>by rw [IJ] at hc;simp at hc)
  rwa [Bi9] at this
 | dead=>trivial
theorem SL {l:List Nat} {b c:Nat}:c∈Ad l b↔c∈l\/c=b:=by
 unfold Ad
 split
 ·rename_i h
  have hb:b∈l:=by simpa using h
  exact ⟨.inl,λh=>h.elim id (λe=>e ▸ hb)⟩
 ·simp
theorem Cf:∀ (xs acc:List Nat) (c:Nat),c∈xs.foldl Ad acc↔c∈acc\/c∈xs
 | [],acc,c=>by simp
 | x::xs,acc,c=>by rw [List.foldl_cons,Cf xs,SL,List.mem_cons,or_assoc]
theorem EW {l:List Nat} {b:Nat} (h:l.Nodup):(Ad l b).Nodup:=by
 unfold Ad
 split
 ·exact h
 ·rename_i hb
  rw [List.nodup_append]
  refine ⟨h,by simp,λx hx y hy e=>?_⟩
  simp at hy
  subst hy
  subst e
  simp at hb
  exact hb hx
theorem Fh:∀ (xs acc:List Nat),acc.Nodup->(xs.foldl Ad acc).Nodup
 | [],acc,h=>h
 | x::xs,acc,h=>by rw [List.foldl_cons];exact Fh xs _ (EW h)
theorem Xu (H:List Blk):∀ (l acc:List Nat),acc.Nodup->(l.foldl (λacc b=>((H.getD b .dead).nms).foldl Ad acc) acc).Nodup
 | [],acc,h=>h
 | x::l,acc,h=>by rw [List.foldl_cons];exact Xu H l _ (Fh _ _ h)
theorem MU (H:List Blk):∀ (l acc:List Nat) c,c∈acc->c∈l.foldl (λacc b=>((H.getD b .dead).nms).foldl Ad acc) acc
 | [],acc,c,h=>h
 | x::l,acc,c,h=>by rw [List.foldl_cons];exact MU H l _ c ((Cf _ _ _).2 (.inl h))
theorem MT (H:List Blk) (p:Nat->Prop) (hp:∀ b,p b->∀ c∈(H.getD b .dead).nms,p c):∀ (l acc:List Nat),(∀ c∈acc,p c)->(∀ c∈l,p c)->∀ c∈l.foldl (λacc b=>((H.getD b .dead).nms).foldl Ad acc) acc,p c
 | [],acc,h,_=>h
 | x::l,acc,h,hl=>by
  rw [List.foldl_cons]
  refine MT H p hp l _ (λc hc=>?_) (λc hc=>hl c (by simp [hc]))
  rcases (Cf _ _ _).1 hc with hc | hc
  ·exact h c hc
  ·exact hp x (hl x (by simp)) c hc
theorem Fz (H:List Blk) (p:List Nat->Prop) (hp:∀ l,p l->p (Xh H l)):∀ n l,p l->p (IA H n l)
 | 0,l,h=>h
 | n+1,l,h=>by
  unfold IA
  cases Nat.beq (Xh H l).length l.length with
  | true=>exact h
  | false=>exact Fz H p hp n _ (hp l h)
theorem Rv (H:List Blk) (l:List Nat):(W8 H l).Nodup:=
 Fz H List.Nodup (λ_ h=>Xu H _ _ h) _ _ (Fh _ _ List.nodup_nil)
theorem CB (H:List Blk) (l:List Nat):∀ c∈l,c∈W8 H l:=λc hc=>
 Fz H (c∈·) (λ_ h=>MU H _ _ c h) _ _ ((Cf _ _ _).2 (.inr hc))
theorem CA (H:List Blk) (l:List Nat) (p:Nat->Prop) (hp:∀ b,p b->∀ c∈(H.getD b .dead).nms,p c) (hl:∀ c∈l,p c):∀ c∈W8 H l,p c:=by
 have h0:∀ c∈l.foldl Ad [],p c:=λc hc=>by
  rcases (Cf _ _ _).1 hc with h | h
  ·simp at h
  ·exact hl c h
 have step:∀ m,(∀ c∈m,p c)->∀ c∈Xh H m,p c:=λm hm=>MT H p hp m m hm hm
 exact Fz H (λm=>∀ c∈m,p c) step _ _ h0
theorem Yn {H:List Blk} {ns:List Nat} (h:Z7 H ns=true):∀ b∈ns,∀ c∈(H.getD b .dead).nms,c∈ns:=by
 intro b hb c hc
 simp only [Z7,List.all_eq_true] at h
 simpa using h b hb c hc
theorem R7 {ns:List Nat} {b:Nat} (h:b∈ns):∃ hlt:D8 ns b<ns.length,ns[D8 ns b]=b:=by
 have hlt:ns.idxOf b<ns.length:=List.idxOf_lt_length_of_mem h
 exact ⟨hlt,List.getElem_idxOf hlt⟩
theorem Ft {Γ:Ctx} {sh:Nat->Option Shp} {w:World}:∀ (ks:List Nat) (sl:List PV),(F7 ks sl).length=sl.length/\(∀ c∈B3 (F7 ks sl),c∉ks/\c∈B3 sl)/\
  ∀ i (h:i<(F7 ks sl).length) (h':i<sl.length) V,VP Γ sh w (sl[i]) V->VP Γ sh w ((F7 ks sl)[i]) V
 | [],sl=>⟨rfl,λc hc=>⟨by simp,hc⟩,λi h h' V hv=>hv⟩
 | b::ks,sl=>by
  obtain ⟨h1,h2,h3⟩:=Ft (Γ:=Γ) (sh:=sh) (w:=w) ks (O2 b sl)
  have hl:(O2 b sl).length=sl.length:=by rw [U6];simp
  have e:F7 (b::ks) sl=F7 ks (O2 b sl):=rfl
  refine ⟨by rw [e,h1,hl],λc hc=>?_,λi h h' V hv=>?_⟩
  ·rw [e] at hc
   obtain ⟨q1,q2⟩:=h2 c hc
   refine ⟨?_,T5 b sl c q2⟩
   rintro hcc
   rcases List.mem_cons.1 hcc with rfl | hcc
   ·exact L0 c sl q2
   ·exact q1 hcc
  ·simp only [e]
   refine h3 i (by rw [e] at h;exact h) (by rw [hl];exact h') V ?_
   have e3:(O2 b sl)[i]'(by rw [hl];exact h')=(sl[i]).kill b:=by simp [U6]
   rw [e3]
   exact hv.kill b
theorem Hg {Γ:Ctx} {sh:Nat->Option Shp} {w:World}:∀ (ks:List Nat) (H:List Blk),(J7 ks H).length=H.length/\(∀ b,A1 (J7 ks H) b=A1 H b)/\
  ∀ i (h:i<(J7 ks H).length) (h':i<H.length),(∀ c∈((J7 ks H)[i]).nms,c∉ks/\c∈(H[i]).nms)/\∀ b,BR Γ sh w b (H[i])->BR Γ sh w b ((J7 ks H)[i])
 | [],H=>⟨rfl,λ_=>rfl,λi h h'=>⟨λc hc=>⟨by simp,hc⟩,λb hb=>hb⟩⟩
 | k::ks,H=>by
  obtain ⟨h1,h2,h3⟩:=Hg (Γ:=Γ) (sh:=sh) (w:=w) ks (H.map (Blk.kill k))
  have hl:(H.map (Blk.kill k)).length=H.length:=by simp
  have e:J7 (k::ks) H=J7 ks (H.map (Blk.kill k)):=rfl
  refine ⟨by rw [e,h1,hl],λb=>by rw [e,h2,Xp],λi h h'=>?_⟩
  have h'':i<(H.map (Blk.kill k)).length:=by rw [hl];exact h'
  obtain ⟨q1,q2⟩:=h3 i (by rw [e] at h;exact h) h''
  have e3:(H.map (Blk.kill k))[i]=(H[i]).kill k:=by simp
  refine ⟨λc hc=>?_,λb hb=>?_⟩
  ·simp only [e] at hc
   obtain ⟨r1,r2⟩:=q1 c hc
   rw [e3] at r2
   obtain ⟨r3,r4⟩:=Blk.kill_nms' c r2
   refine ⟨?_,r4⟩
   rintro hcc
   rcases List.mem_cons.1 hcc with rfl | hcc
   ·exact r3 rfl
   ·exact r1 hcc
  ·simp only [e]
   exact q2 b (by rw [e3];exact hb.kill)
theorem Di:∀ (ns:List Nat) (xs H:List Blk),ns.Nodup->xs.length=ns.length->(∀ b∈ns,b<H.length)->(N2 H ns xs).length=H.length/\
  ∀ b,(N2 H ns xs)[b]? = if b∈ns then xs[ns.idxOf b]? else H[b]?
 | [],xs,H,_,hl,_=>by cases xs<;>simp [N2]
 | n::ns,[],H,_,hl,_=>by simp at hl
 | n::ns,x::xs,H,hd,hl,hlt=>by
  obtain ⟨h1,h2⟩:=Di ns xs (H.set n x) (List.nodup_cons.1 hd).2 (by simpa using hl) (λb hb=>by simpa using hlt b (by simp [hb]))
  have e:N2 H (n::ns) (x::xs)=N2 (H.set n x) ns xs:=rfl
  refine ⟨by rw [e,h1];simp,λb=>?_⟩
  rw [e,h2]
  have hn:n∉ns:=(List.nodup_cons.1 hd).1
  by_cases hb:b∈ns
  ·have hbn:n≠b:=by rintro rfl;exact hn hb
   rw [if_pos hb,if_pos (by simp [hb]),List.idxOf_cons]
   have:(n==b)=false:=by simpa using hbn
   simp [this]
  ·rw [if_neg hb,List.getElem?_set]
   by_cases e:n=b
   ·subst e
    rw [if_pos rfl,if_pos (hlt n (by simp)),if_pos (by simp)]
    simp
   ·rw [if_neg e,if_neg (by simp only [List.mem_cons,not_or];exact ⟨λh=>e h.symm,hb⟩)]
def C1 (ro:Option Nat):Fence:={ Fence.wide with round:=ro }
def I2 (P:Program) (res:Result Next) (R:Value->World->Prop):Prop:=
 ∀ (ro:Option Nat) (n:Nat) (o:Oper) (a:Act) (next:Act->World->Prop) (Q:Exit->Act->World->Prop),(∀ V w',R V w'->next (a.put o.dst V) w')->o.uponIn (C1 ro) n P a next Q res
theorem I2.mono {P:Program} {res:Result Next} {R R':Value->World->Prop} (h:I2 P res R) (hr:∀ V w',R V w'->R' V w'):I2 P res R':=
 λro n o a next Q hn=>h ro n o a next Q λV w' hR=>hn V w' (hr V w' hR)
def R6 {σ:Type} (C:Cfg) (I:σ->(Nat->Prop)->(Nat->Prop)->World->Prop) (Γ:Ctx) (H:List Blk) (w:World) (Φ:Nat->Prop) (ret:PV) (Hc:List Blk) (s':σ) (V:Value) (w':World):Prop:=
 ∃ Γ' Φ',Stp C Γ H w Φ Γ' Hc w' Φ'/\HR Γ' Hc w'/\VP Γ' (A1 Hc) w' ret V/\(∀ c∈ret.nms,c<Hc.length)/\I s' Γ'.St Φ' w'/\∀ b g,Γ'.nm b=some g->¬ Φ' g
def OE {σ:Type} (P:Program) (I:σ->(Nat->Prop)->(Nat->Prop)->World->Prop) (yh:Yh σ) (yv:Value):Prop:=
 ∀ args s b s',yh args s=some (b,s')->Eh args=true->∀ Γ Φ w Vs,I s Γ.St Φ w->(∀ g,Γ.St g->g<w.heap.size)->CR Γ (λ_=>none) w args Vs->
  I2 P ((do let d <-Deferred.ofValue yv Vs;invoke d.target d.args).run P w) λV w'=>V = .bool b/\∃ St' Φ',I s' St' Φ' w'/\(∀ g,Γ.St g->St' g)/\(∀ g,St' g->Γ.St g\/w.heap.size<=g)/\(∀ g,Φ' g->Φ g\/w.heap.size<=g)/\
   (∀ g,g<w.heap.size->¬ Φ g->w'.heap[g]? = w.heap[g]?)/\w.heap.size<=w'.heap.size/\w'.os=w.os/\w'.tape=w.tape/\w'.output=w.output/\∀ g,St' g->g<w'.heap.size
def U2 (C:Cfg) (cl:D0):Prop:=
 ∀ (σ:Type) (I:σ->(Nat->Prop)->(Nat->Prop)->World->Prop) (yh:Yh σ) (yv:Value),HI I->OE C.P I yh yv->
  ∀ g args H s ret Hc s',cl σ yh g args H s=some (ret,Hc,s')->∀ Γ Φ w Vs,Γ.yv=yv->HR Γ H w->GOK C Γ.St w->I s Γ.St Φ w->(∀ b g,Γ.nm b=some g->¬ Φ g)->CR Γ (A1 H) w args Vs->(∀ c∈B3 args,c<H.length)->
   I2 C.P ((callFunc g Vs).run C.P w) (R6 C I Γ H w Φ ret Hc s')
def I0:Unit->(Nat->Prop)->(Nat->Prop)->World->Prop:=λ_ _ Φ _=>∀ g,¬ Φ g
def Bn8 (C:Cfg):Prop:=
 ∀ g pf args ret Hc,C.X g=some pf->G2 (pf args)=some (ret,Hc)->∀ Γ w Vs,(∀ b,Γ.nm b=none)->HR Γ [] w->GOK C Γ.St w->CR Γ (A1 []) w args Vs->
  I2 C.P ((callFunc g Vs).run C.P w) (R6 C I0 Γ [] w noΦ ret Hc ())
def clY (C:Cfg):D0:=λ_ _ g args H s=>match C.Y g with
 | some pf=>match G2 (pf args H) with
  | some (r,h)=>some (r,h,s)
  | none=>none
 | none=>none
def O0 {σ:Type} (yh:Yh σ):List (List PV)->σ->Option σ
 | [],s=>some s
 | x::xs,s=>match yh x s with
  | some (true,s')=>O0 yh xs s'
  | some (false,s')=>some s'
  | none=>none
def clS (C:Cfg):D0:=λ_ yh g args H s=>match C.S g with
 | some pf=>if H.all Wd=true then match pf args H with
  | some (true,L)=>match O0 yh L s with
   | some s'=>some (.tup [],H.map Cw,s')
   | none=>none
  | _=>none
  else none
 | none=>none
def E8 (w w':World):Prop:=(Ext w w'/\w.heap.size<=w'.heap.size)/\w'.os=w.os/\w'.tape=w.tape/\w'.output=w.output
def Aw2:SV->Value->Value->Array Value
 | .nilp,S,_=>#[S]
 | _,S,X=>#[S,X]
def IZ (P:Program) (g:Nat) (pf:SV->List (List SV)->Bool × List (List SV)):Prop:=
 ∀ (St:Nat->Prop) (w:World) (x:SV) (X:Value) (els:List (List SV)),VS St w x X->(pf x els).1=true->
  (els=[]->I2 P ((callFunc g (Aw2 x (.slice none 0 0) X)).run P w) λV w'=>V=undef/\(pf x els).2=[]/\E8 w w')/\
  ∀ g0 cur e sz cap,w.heap[g0]? = some (.cells cur e (0,0))->cur.size=cap*sz->els.length<=cap->cap<=maxLen->¬ St g0->(∀ g,St g->g<w.heap.size)->
   (∀ i (h:i<els.length),(els[i]).length=sz)->(∀ i (h:i<els.length) j (h':j<(els[i]).length),∃ V,cur[i*sz+j]? = some V/\VS St w (els[i][j]) V)->
   I2 P ((callFunc g (Aw2 x (.slice (some ⟨g0,0,none⟩) els.length cap) X)).run P w) λV w'=>V=undef/\(pf x els).2.length=els.length/\
    ∃ w1 cur',w1.heap[g0]? = some (.cells cur' e (0,0))/\cur'.size=cur.size/\(∀ k,k≠g0->w1.heap[k]? = w.heap[k]?)/\w1.heap.size=w.heap.size/\w1.os=w.os/\w1.tape=w.tape/\w1.output=w.output/\
     (∀ i (h:i<(pf x els).2.length),((pf x els).2[i]).length=sz)/\(∀ i (h:i<(pf x els).2.length) j (h':j<((pf x els).2[i]).length),∃ V,cur'[i*sz+j]? = some V/\VS St w1 ((pf x els).2[i][j]) V)/\E8 w1 w'
structure XOK (C:Cfg):Prop where
 x:Bn8 C
 y:U2 C (clY C)
 s:U2 C (clS C)
 z:∀ g pf,C.Z g=some pf->IZ C.P g pf
section
variable {Γ : Ctx} {H : List Blk} {w : World} {C : Cfg}
def Ctx.all (Γ:Ctx):Ctx:={ Γ with St:=λg=>Γ.St g\/∃ b,Γ.nm b=some g }
theorem IC {St':Nat->Prop} {b e sz i n:Nat} {v:Bool} {els:List (List SV)} {a:Addr} {cap g:Nat} (hH:HR Γ H w) (hb:H[b]? = some (.arr v e sz els)) (hne:¬ (v=true/\els=[])) (hg:Γ.nm b=some g) (hi:i+n<=els.length) (ha:n≠0->a=⟨g,i*sz,none⟩) (hcap:n<=cap) (hm:cap<=maxLen) (hs':∀ g,Γ.St g->St' g) (hg':St' g) :
  VS St' w (.sl false false sz ((els.drop i).take n)) (.slice (some a) n cap):=by
 by_cases hn:n=0
 ·subst hn
  rw [List.take_zero]
  exact .emp false sz a cap (by simp) hm
 ·rw [ha hn]
  obtain ⟨g',cur,h1,h2,h3,h4,h5⟩:=hH.arr' hb hne
  rw [hg] at h1;cases h1
  have hlen:((els.drop i).take n).length=n:=by simp;omega
  have hget:∀ k (hk:k<((els.drop i).take n).length),∃ h':i+k<els.length,((els.drop i).take n)[k]=els[i+k]:=λk hk=>by grind
  have hcell:∀ k,k<cur.size->w.cell? ⟨g,k,none⟩=cur[k]?:=λk _=>cell_of_row w g k cur e (0,0) h2
  refine .sl false _ g (i*sz) n cap sz (λk j=>cur.getD (i*sz+k*sz+j) undef) hlen.symm hcap hm (by simp) hg' (λk hk=>?_) (λk hk j hj=>?_) (λk hk j hj=>?_)
  ·obtain ⟨h',e⟩:=hget k hk;rw [e];exact h4 _ h'
  ·obtain ⟨h',e⟩:=hget k hk
   obtain ⟨V,e1,e2⟩:=h5 _ h' j (by rw [<-e];exact hj)
   have e3:cur[i*sz+k*sz+j]? = some V:=by rw [<-e1,Nat.add_mul]
   rw [cell_of_row w g _ cur _ (0,0) h2,e3]
   simp [Array.getD_eq_getD_getElem?,e3]
  ·obtain ⟨h',e⟩:=hget k hk
   obtain ⟨V,e1,e2⟩:=h5 _ h' j (by rw [<-e];exact hj)
   have e3:cur[i*sz+k*sz+j]? = some V:=by rw [<-e1,Nat.add_mul]
   simp only [e,Array.getD_eq_getD_getElem?,e3]
   exact e2.mono (λ_ _=>rfl) hs'
theorem VP.toAll {sh:Nat->Option Shp} {v:PV} {V:Value} (h:VP Γ sh w v V):VP Γ.all sh w v V:=
 h.mono (Γ':=Γ.all) (ok:=λ_=>True) ⟨λ_ _=>rfl,λ_ h=>Or.inl h,λ_ _=>rfl,λ_ _=>rfl,λ_ _ _ _=>rfl,rfl⟩ (λ_ _=>trivial)
theorem VP.snap (hH:HR Γ H w) {v:PV} {V:Value} (h:VP Γ (A1 H) w v V):VP Γ.all (A1 H) w (v.snap H) V:=by
 generalize hsh:A1 H=sh at h
 induction h with
 | s v V h=>exact (VP.s v V h).toAll
 | nsl=>exact .s _ _ (.nil _ _)
 | flv b e sz h=>
  subst hsh
  obtain ⟨x,hx,hs⟩:∃ x,H[b]? = some x/\x.shp = .arr true e sz 0:=by simpa [A1] using h
  cases x<;>simp [Blk.shp] at hs
  rename_i v' e' sz' els
  obtain ⟨rfl,rfl,rfl,h4⟩:=hs
  subst h4
  simp only [PV.snap,hx]
  exact .s _ _ (.nil _ _)
 | fl b g v e sz n cap h hv hg hcap hm hs=>
  subst hsh
  obtain ⟨x,hx,hs'⟩:∃ x,H[b]? = some x/\x.shp = .arr v e sz n:=by simpa [A1] using h
  cases x<;>simp [Blk.shp] at hs'
  rename_i v' e' sz' els
  obtain ⟨rfl,rfl,rfl,rfl⟩:=hs'
  have hne:¬ (v'=true/\els=[]):=by rintro ⟨q1,q2⟩;exact hv q1 (by rw [q2];rfl)
  have hz:(v'&&els.isEmpty)=false:=by grind
  simp only [PV.snap,hx,hz]
  have:=IC (i:=0) (n:=els.length) (a:=⟨g,0,none⟩) (cap:=cap) hH hx hne hg (by omega) (λ_=>by simp) hcap hm (St':=Γ.all.St) (λ_ h=>Or.inl h) (.inr ⟨b,hg⟩)
  simp only [List.drop_zero,List.take_length] at this
  exact .s _ _ this
 | vwv b e sz i h=>
  subst hsh
  obtain ⟨x,hx,hs⟩:∃ x,H[b]? = some x/\x.shp = .arr true e sz 0:=by simpa [A1] using h
  cases x<;>simp [Blk.shp] at hs
  rename_i v' e' sz' els
  obtain ⟨rfl,rfl,rfl,h4⟩:=hs
  subst h4
  simp only [PV.snap,hx,List.drop_nil,List.take_nil]
  exact .s _ _ (.nil _ _)
 | vw b i n g a cap v e sz m h hv hg ha hi hcap hm=>
  subst hsh
  obtain ⟨x,hx,hs'⟩:∃ x,H[b]? = some x/\x.shp = .arr v e sz m:=by simpa [A1] using h
  cases x<;>simp [Blk.shp] at hs'
  rename_i v' e' sz' els
  obtain ⟨rfl,rfl,rfl,rfl⟩:=hs'
  have hne:¬ (v'=true/\els=[]):=by rintro ⟨q1,q2⟩;exact hv q1 (by rw [q2];rfl)
  have hz:(v'&&els.isEmpty)=false:=by grind
  simp only [PV.snap,hx,hz]
  exact .s _ _ (IC hH hx hne hg hi ha hcap hm (λ_ h=>Or.inl h) (.inr ⟨b,hg⟩))
 | ptrA b i off g v e sz n h hg=>exact (VP.ptrA b i off g v e sz n h hg).toAll
 | ptrB b off g h hg=>exact (VP.ptrB b off g h hg).toAll
 | fnr f x y A B As Bs hf hA hB ha hb hx hy ihx ihy=>exact (VP.fnr f x y A B As Bs hf hA hB ha hb hx hy).toAll
 | it b g h hg=>exact (VP.it b g h hg).toAll
 | mpv b g h hg=>exact (VP.mpv b g h hg).toAll
 | yd=>exact .yd
 | agg l A As hA ha hl ih=>
  simp only [PV.snap,N4]
  refine .agg _ A As (by simpa using hA) (λj h=>ha j (by simpa using h)) (λj h=>?_)
  grind
 | tup l A As hA ha hl ih=>exact (VP.tup l A As hA ha hl).toAll
 | bad V=>exact .bad V
theorem CE {l:List PV} (h:Rx l=false):∀ v∈l,v.rows=false:=by
 induction l with
 | nil=>simp
 | cons a l ih=>
  simp only [Rx,Bool.or_eq_false_iff] at h
  grind
theorem VP.snap_plain {sh:Nat->Option Shp} {v:PV} {V:Value} (h:VP Γ sh w v V):v.rows=false->VP Γ sh w (v.snap H) V/\∀ c∈(v.snap H).nms,c∈v.nms:=by
 induction h with
 | nsl=>intro _;exact ⟨.s _ _ (.nil _ _),by simp [PV.snap,PV.nms]⟩
 | flv b e sz h=>intro hr;simp [PV.rows] at hr
 | fl b g v e sz n cap h hv hg hcap hm hs=>intro hr;simp [PV.rows] at hr
 | vwv b e sz i h=>intro hr;simp [PV.rows] at hr
 | vw b i n g a cap v e sz m h hv hg ha hi hcap hm=>intro hr;simp [PV.rows] at hr
 | agg l A As hA ha hl ih=>
  intro hr
  simp only [PV.rows] at hr
  have hr':=CE hr
  simp only [PV.snap,N4]
  refine ⟨.agg _ A As (by simpa using hA) (λj h=>ha j (by simpa using h)) (λj h=>?_),λc hc=>?_⟩
  ·grind
  ·simp only [PV.nms] at hc ⊢
   obtain ⟨j,hj,hc⟩:=A8.1 hc
   rw [List.getElem_map] at hc
   exact A8.2 ⟨j,by simpa using hj,(ih j (by simpa using hj) (hr' _ (List.getElem_mem _))).2 c hc⟩
 | s v V h=>intro _;exact ⟨.s v V h,λc hc=>hc⟩
 | ptrA b i off g v e sz n h hg=>intro _;exact ⟨.ptrA b i off g v e sz n h hg,λc hc=>hc⟩
 | ptrB b off g h hg=>intro _;exact ⟨.ptrB b off g h hg,λc hc=>hc⟩
 | fnr f x y A B As Bs hf hA hB ha hb hx hy ihx ihy=>intro _;exact ⟨.fnr f x y A B As Bs hf hA hB ha hb hx hy,λc hc=>hc⟩
 | it b g h hg=>intro _;exact ⟨.it b g h hg,λc hc=>hc⟩
 | mpv b g h hg=>intro _;exact ⟨.mpv b g h hg,λc hc=>hc⟩
 | yd=>intro _;exact ⟨.yd,λc hc=>hc⟩
 | tup l A As hA ha hl ih=>intro _;exact ⟨.tup l A As hA ha hl,λc hc=>hc⟩
 | bad V=>intro _;exact ⟨.bad V,λc hc=>hc⟩
theorem CR.snap (hH:HR Γ H w) {l:List PV} {A:Array Value} (h:CR Γ (A1 H) w l A):CR Γ.all (A1 H) w (I1 H l) A:=by
 rw [N4]
 refine ⟨by rw [List.length_map];exact h.1,λj hj=>?_⟩
 obtain ⟨U,e,k⟩:=h.2 j (by simpa using hj)
 exact ⟨U,e,by rw [List.getElem_map];exact k.snap hH⟩
theorem CR.snap_plain {l:List PV} {A:Array Value} (h:CR Γ (A1 H) w l A) (hr:Rx l=false):CR Γ (A1 H) w (I1 H l) A/\∀ c∈B3 (I1 H l),c∈B3 l:=by
 have hr':=CE hr
 rw [N4]
 refine ⟨⟨by rw [List.length_map];exact h.1,λj hj=>?_⟩,λc hc=>?_⟩
 ·obtain ⟨U,e,k⟩:=h.2 j (by simpa using hj)
  exact ⟨U,e,by rw [List.getElem_map];exact (k.snap_plain (hr' _ (List.getElem_mem _))).1⟩
 ·obtain ⟨j,hj,hc⟩:=A8.1 hc
  rw [List.getElem_map] at hc
  have hj':j<l.length:=by simpa using hj
  obtain ⟨U,e,k⟩:=h.2 j hj'
  exact A8.2 ⟨j,hj',(k.snap_plain (hr' _ (List.getElem_mem _))).2 c hc⟩
theorem VP.snapP (hH:HR Γ H w) {v:PV} {V:Value} (h:VP Γ (A1 H) w v V):VP Γ.all (A1 H) w (v.snapP H) V:=by
 unfold PV.snapP
 split
 ·rename_i b off
  split
  ·rename_i cells hb
   split
   ·rename_i vs hvs
    obtain ⟨g,cur,e,hg,hh,hcur,hcells,_⟩:=hH.box' hb
    have hV:V = .pointer (some ⟨g,off,none⟩):=by
     cases h with
     | ptrA _ _ _ g' v e sz n h' hg'=>simp [A1,hb,Blk.shp] at h'
     | ptrB _ _ g' h' hg'=>rw [hg] at hg';cases hg';rfl
    subst hV
    have hl:(I1 H cells).length=cells.length:=by rw [N4,List.length_map]
    obtain ⟨f1,f2⟩:=G6 (Γ:=Γ.all) (w:=w) (sh:=A1 H) (As:=cur.toList) hvs (by rw [hl];simpa using hcur.symm) (λj hj=>by
     obtain ⟨U,e1,k⟩:=hcells j (by omega)
     refine ⟨U,by simpa using e1,?_⟩
     have e2:(I1 H cells)[j]=(cells[j]'(by omega)).snap H:=by simp only [N4,List.getElem_map]
     rw [e2]
     exact k.snap hH)
    refine .s _ _ ?_
    have hvl:vs.length=cells.length:=by rw [f1];simpa using hcur
    have:=VS.sp (St:=Γ.all.St) (w:=w) [vs] 0 off g 0 vs.length (λ_ j=>cur.getD j undef) (.inr ⟨b,hg⟩) (λi hi=>by
      have:i=0:=by simpa using hi
      subst this;rfl) (λi hi j hj=>?_) (λi hi j hj=>?_)
    ·simpa using this
    ·have:i=0:=by simpa using hi
     subst this
     have hj':j<cur.size:=by rw [hcur,<-hvl];exact hj
     simp [World.cell?,hh,hj']
    ·have:i=0:=by simpa using hi
     subst this
     have hj1:j<vs.length:=hj
     obtain ⟨U,e1,k⟩:=f2 j hj1
     have e3:cur.getD j undef=U:=by rw [Array.getD_eq_getD_getElem?,<-Array.getElem?_toList,e1];rfl
     rw [e3]
     exact k
   ·exact h.toAll
  ·exact h.toAll
 ·exact h.snap hH
theorem VP.snapA (hH:HR Γ H w) {v:PV} {V:Value} (h:VP Γ (A1 H) w v V):VP Γ.all (A1 H) w (v.snapA H) V:=by
 unfold PV.snapA
 split
 ·rename_i f x y
  split
  ·rename_i a b ha hb
   cases h with
   | fnr _ _ _ A B As Bs hf hA hB hAs hBs hx hy=>
    obtain ⟨p1,p2⟩:=G6 (Γ:=Γ.all) (w:=w) (sh:=A1 H) (As:=A.toList) ha (by simp [hA]) (λj hj=>by
     have hj':j<x.length:=by simpa using hj
     exact ⟨As j,by simpa using hAs j hj',by rw [List.getElem_map];exact (hx j hj').snapP hH⟩)
    obtain ⟨q1,q2⟩:=G6 (Γ:=Γ.all) (w:=w) (sh:=A1 H) (As:=B.toList) hb (by simp [hB]) (λj hj=>by
     have hj':j<y.length:=by simpa using hj
     exact ⟨Bs j,by simpa using hBs j hj',by rw [List.getElem_map];exact (hy j hj').snapP hH⟩)
    have ex:a.length=x.length:=by rw [p1];simpa using hA
    have ey:b.length=y.length:=by rw [q1];simpa using hB
    refine .s _ _ (VS.fn f a b A B As Bs hf (by rw [hA,ex]) (by rw [hB,ey]) (λj hj=>hAs j (by omega)) (λj hj=>hBs j (by omega)) (λj hj=>?_) (λj hj=>?_))
    ·obtain ⟨U,e,k⟩:=p2 j hj
     have:U=As j:=by
      have h1:=hAs j (by omega)
      rw [Array.getElem?_toList,h1] at e
      exact (Option.some.inj e).symm
     rw [<-this];exact k
    ·obtain ⟨U,e,k⟩:=q2 j hj
     have:U=Bs j:=by
      have h1:=hBs j (by omega)
      rw [Array.getElem?_toList,h1] at e
      exact (Option.some.inj e).symm
     rw [<-this];exact k
  ·exact h.toAll
 ·exact h.snapP hH
theorem CR.argX (hH:HR Γ H w) {l:List PV} {A:Array Value} (h:CR Γ (A1 H) w l A):CR Γ.all (A1 H) w (argX H l) A:=by
 unfold E.argX
 cases (B3 (I1 H l)).isEmpty with
 | true=>exact h.snap hH
 | false=>
  refine ⟨by simpa using h.1,λj hj=>?_⟩
  simp only [cond_false,List.length_map] at hj
  obtain ⟨U,e,k⟩:=h.2 j hj
  exact ⟨U,e,by simp only [cond_false,List.getElem_map];exact k.snapA hH⟩
theorem CR.argX_plain {l:List PV} {A:Array Value} (h:CR Γ (A1 H) w l A) (hp:Qc H l=true):CR Γ (A1 H) w (E.argX H l) A:=by
 unfold Qc at hp
 rw [Bool.and_eq_true,Bool.not_eq_true'] at hp
 unfold E.argX
 rw [hp.1]
 exact (h.snap_plain hp.2).1
theorem CR.bare {Γ':Ctx} {sh sh':Nat->Option Shp} {l:List PV} {A:Array Value} (h:CR Γ sh w l A) (hn:B3 l=[]) (hst:∀ g,Γ.St g->Γ'.St g) (hyv:Γ'.yv = Γ.yv):CR Γ' sh' w l A:=
 ⟨h.1,λj hj=>by
  obtain ⟨U,e,k⟩:=h.2 j hj
  refine ⟨U,e,k.mono (ok:=λ_=>False) ⟨λ_ _=>rfl,hst,λ_ h=>h.elim,λ_ h=>h.elim,λ_ _ h=>h.elim,hyv⟩ (λb hb=>?_)⟩
  have:b∈B3 l:=A8.2 ⟨j,hj,hb⟩
  rw [hn] at this
  simp at this⟩
theorem Qq {St':Nat->Prop} {w':World} (hH:HR Γ H w) (hold:∀ g,g<w.heap.size->w'.heap[g]? = w.heap[g]?) (hs:∀ g,Γ.St g->St' g):P7 Γ (A1 H) w { Γ with St:=St' } (A1 H) w' (λ_=>True):=
 ⟨λg hg=>hold g (hH.stlt g hg),hs,λ_ _=>rfl,λ_ _=>rfl,λb g _ hg=>C3 (hold g (hH.lt b g hg).2.1),rfl⟩
theorem Ba3 {St':Nat->Prop} {w':World} (hH:HR Γ H w) (hold:∀ g,g<w.heap.size->w'.heap[g]? = w.heap[g]?) (hsz:w.heap.size<=w'.heap.size) (hs:∀ g,Γ.St g->St' g) (hn:∀ g,St' g->Γ.St g\/w.heap.size<=g) (hlt:∀ g,St' g->g<w'.heap.size):HR { Γ with St:=St' } H w':=by
 refine ⟨hH.inj,λb g hg=>?_,hlt,hH.nms,λb hb=>(hH.blk b hb).mono (Qq hH hold hs) rfl (λg hg=>hold g (hH.lt b g hg).2.1) (λ_ _=>trivial)⟩
 have:=hH.lt b g hg
 grind
theorem Au3 {St':Nat->Prop} {w':World} {Φ:Nat->Prop} (hH:HR Γ H w) (hold:∀ g,g<w.heap.size->w'.heap[g]? = w.heap[g]?) (hsz:w.heap.size<=w'.heap.size) (hs:∀ g,Γ.St g->St' g) (hn:∀ g,St' g->Γ.St g\/w.heap.size<=g) (h1:w'.os=w.os) (h2:w'.tape=w.tape) (h3:w'.output=w.output) :
  Stp C Γ H w Φ { Γ with St:=St' } H w' Φ:=
 ⟨h1,h2,h3,hsz,hs,hn,λb g hg=>.inl ⟨(hH.lt b g hg).1,hg⟩,λ_ h=>.inl h,λg hg _ _=>hold g hg,rfl,Nat.le_refl _,λb hb hf=>⟨rfl,rfl,λg hg=>C3 (hold g (hH.lt b g hg).2.1)⟩⟩
end
section
variable {σ R : Type} {r : R} {C : Cfg} {I : σ -> (Nat -> Prop) -> (Nat -> Prop) -> World -> Prop} {Γ : Ctx} {Φ : Nat -> Prop} {st : St σ} {tmps : Array Value} {w : World} {cl : D0} {yh : Yh σ} {yv : Value}
def IS (C:Cfg) (I:σ->(Nat->Prop)->(Nat->Prop)->World->Prop) (Γ:Ctx) (Φ:Nat->Prop) (st:St σ) (tmps:Array Value) (w:World) (k:PV->St σ->Option R) (r:R) (V:Value) (w':World):Prop:=
 ∃ v st' Γ' Φ',k v st'=some r/\Stp C Γ st.hp w Φ Γ' st'.hp w' Φ'/\SI C I Γ' Φ' st' tmps w'/\VP Γ' (A1 st'.hp) w' v V/\∀ c∈v.nms,c<st'.hp.length
theorem Fk {Γc:Ctx} (hn:∀ b,Γc.nm b=none) (hlt:∀ g,Γc.St g->g<w.heap.size):HR Γc [] w:=
 ⟨λb b' g h=>(by rw [hn] at h;cases h),λb g h=>(by rw [hn] at h;cases h),hlt,λb h=>by simp at h,λb h=>by simp at h⟩
theorem SI.wide (hI:HI I) (S:SI C I Γ Φ st tmps w) {St':Nat->Prop} {w':World} (hold:∀ g,g<w.heap.size->w'.heap[g]? = w.heap[g]?) (hsz:w.heap.size<=w'.heap.size) (hs:∀ g,Γ.St g->St' g) (hn:∀ g,St' g->Γ.St g\/w.heap.size<=g) (hlt:∀ g,St' g->g<w'.heap.size)
  (h1:w'.os=w.os) (h2:w'.tape=w.tape) (h3:w'.output=w.output):SI C I { Γ with St:=St' } Φ st tmps w'/\Stp C Γ st.hp w Φ { Γ with St:=St' } st.hp w' Φ:=by
 have hstp:=Au3 (C:=C) (Φ:=Φ) S.hr hold hsz hs hn h1 h2 h3
 refine ⟨?_,hstp⟩
 have:=S.step hI hstp (λg hg=>hold g (hI.foot _ _ _ _ S.inv g hg).1) (Ba3 S.hr hold hsz hs hn hlt) (S.sr.mono (Qq S.hr hold hs) (λc hc=>⟨trivial,S.sr.nms c hc⟩))
 exact this
theorem SI.wideSt (hI:HI I) (S:SI C I Γ Φ st tmps w) {St':Nat->Prop} (hs:∀ g,Γ.St g->St' g) (hd:∀ g,St' g->¬ Φ g) (hn:∀ b g,Γ.nm b=some g->¬ St' g) (hlt:∀ g,St' g->g<w.heap.size):SI C I { Γ with St:=St' } Φ st tmps w:=by
 have M:P7 Γ (A1 st.hp) w { Γ with St:=St' } (A1 st.hp) w (λ_=>True):=⟨λ_ _=>rfl,hs,λ_ _=>rfl,λ_ _=>rfl,λ_ _ _ _=>rfl,rfl⟩
 refine ⟨⟨S.hr.inj,λb g hb=>?_,hlt,S.hr.nms,λb hb=>(S.hr.blk b hb).mono M rfl (λ_ _=>rfl) (λ_ _=>trivial)⟩,
  S.sr.mono M (λc hc=>⟨trivial,S.sr.nms c hc⟩),S.g.mono (λ_ _=>rfl) hs,hI.mono _ _ _ _ _ _ S.inv hs hd hlt (λ_ _=>rfl) (Nat.le_refl _) rfl rfl rfl,S.dis⟩
 obtain ⟨q1,q2,_⟩:=S.hr.lt b g hb
 exact ⟨q1,q2,hn b g hb⟩
theorem OF (S:SI C I Γ Φ st tmps w):∀ g,Γ.all.St g->g<w.heap.size:=by
 rintro g (h | ⟨b,h⟩)
 ·exact S.hr.stlt g h
 ·exact (S.hr.lt b g h).2.1
theorem Af3:HI I0:=⟨λ_ _ Φ _ h g hg=>absurd hg (h g),λ_ _ Φ _ _ _ h _ _ _ _ _ _ _ _=>h⟩
theorem Af4 {P:Program} {yv:Value}:OE P I0 (λ_ _=>none) yv:=λ_ _ _ _ h=>by cases h
theorem Qo {ret:PV} {Hc:List Blk} {k:PV->St σ->Option R} {St0:Nat->Prop} {Res:Result Next} (hI:HI I) (S:SI C I Γ Φ st tmps w) (hSt:∀ g,Γ.St g->St0 g) (hcln:(∀ g,St0 g->Γ.St g)\/(ret.clean=true/\Hc.all Blk.clean=true))
  (hres:I2 C.P Res (R6 C I0 { Γ with St:=St0,nm:=λ_=>none } [] w noΦ ret Hc ()))
  (hk:k (ret.rn (st.hp.length + ·)) { sl:=st.sl,hp:=st.hp++Hc.map (Blk.rn (st.hp.length + ·)),s:=st.s } = some r):I2 C.P Res (λV w'=>IS C I Γ Φ st tmps w k r V w'/\E8 w w'):=by
 let Γc:Ctx:={ Γ with St:=St0,nm:=λ_=>none }
 refine hres.mono ?_
 rintro V w' ⟨Γ1,Φ1,hs,hH1,hv,hvn,hi1,hd1⟩
 have hold:∀ k,k<w.heap.size->w'.heap[k]? = w.heap[k]?:=λk hk=>hs.frame k hk (λb=>by simp) (λx=>x)
 generalize hL:st.hp.length=L at *
 have hnew:∀ i g,Γ1.nm i=some g->i<Hc.length/\w.heap.size<=g/\g<w'.heap.size:=λi g h=>by
  refine ⟨(hH1.lt i g h).1,?_,(hH1.lt i g h).2.1⟩
  rcases hs.own i g h with ⟨h',_⟩ | h'
  ·simp at h'
  ·exact h'
 obtain ⟨St2,hst2,hst2n,hst2l,hclr⟩:∃ St2:Nat->Prop,(∀ g,Γ.St g->St2 g)/\(∀ g,St2 g->Γ.St g\/(w.heap.size<=g/\Γ1.St g))/\(∀ g,St2 g->g<w'.heap.size)/\((∀ g,Γ1.St g->St2 g)\/(ret.clean=true/\Hc.all Blk.clean=true)):=by
  rcases hcln with h | h
  ·refine ⟨Γ1.St,λg hg=>hs.sub g (hSt g hg),λg hg=>?_,λg hg=>hH1.stlt g hg,.inl λ_ h=>h⟩
   rcases hs.stnew g hg with q | q
   ·exact .inl (h g q)
   ·exact .inr ⟨q,hg⟩
  ·exact ⟨Γ.St,λ_ h=>h,λ_ h=>.inl h,λg hg=>Nat.lt_of_lt_of_le (S.hr.stlt g hg) hs.size,.inr h⟩
 let Γ2:Ctx:={ Γ with St:=St2,nm:=λb=>if b<L then Γ.nm b else Γ1.nm (b-L) }
 let H2:List Blk:=st.hp++Hc.map (Blk.rn (L + ·))
 have hsh:∀ i,i<Hc.length->A1 H2 (L+i)=A1 Hc i:=λi hi=>by
  simp only [H2,A1]
  rw [List.getElem?_append_right (by omega),hL,Nat.add_sub_cancel_left,List.getElem?_map,Option.map_map]
  congr 1
  funext x
  exact Blk.rn_shp _ x
 have M:P7 Γ (A1 st.hp) w Γ2 (A1 H2) w' (· < L):=⟨λg hg=>hold g (S.hr.stlt g hg),hst2,λb hb=>by simp only [Γ2];rw [if_pos hb],λb hb=>H8 (by omega),λb g hb hg=>C3 (hold g (S.hr.lt b g hg).2.1),rfl⟩
 have hnm2:∀ i,i<Hc.length->Γ2.nm (L+i) = Γ1.nm i:=λi hi=>by simp only [Γ2];rw [if_neg (by omega),Nat.add_sub_cancel_left]
 have hyv:Γ2.yv = Γ1.yv:=by have:=hs.yv;exact this.symm
 have hlen2:H2.length=L+Hc.length:=by simp [H2,hL]
 have hr2:HR Γ2 H2 w':=by
  refine ⟨λb b' g h1 h2=>?_,λb g h=>?_,hst2l,λb hb c hcc=>?_,λb hb=>?_⟩
  ·simp only [Γ2] at h1 h2
   split at h1<;>split at h2
   ·exact S.hr.inj b b' g h1 h2
   ·have:=(S.hr.lt b g h1).2.1;have:=(hnew _ g h2).2.1;omega
   ·have:=(S.hr.lt b' g h2).2.1;have:=(hnew _ g h1).2.1;omega
   ·have:=hH1.inj _ _ g h1 h2;omega
  ·rw [hlen2]
   simp only [Γ2] at h
   split at h
   ·have:=S.hr.lt b g h
    refine ⟨by omega,by have:=hs.size;omega,λhst=>?_⟩
    rcases hst2n g hst with q | q
    ·exact this.2.2 q
    ·omega
   ·have:=hnew _ g h
    refine ⟨by omega,this.2.2,λhst=>?_⟩
    rcases hst2n g hst with q | q
    ·have:=S.hr.stlt g q;omega
    ·exact (hH1.lt _ g h).2.2 q.2
  ·rw [hlen2] at hb ⊢
   by_cases hbL:b<L
   ·have:H2[b]'(by omega)=st.hp[b]'(by omega):=List.getElem_append_left (by omega)
    rw [this] at hcc
    have:=S.hr.nms b (by omega) c hcc;omega
   ·have:H2[b]'(by omega)=(Hc[b-L]'(by omega)).rn (L + ·):=by
     simp only [H2]
     rw [List.getElem_append_right (by omega),List.getElem_map]
     simp [hL]
    rw [this,Blk.rn_nms] at hcc
    obtain ⟨d,hd,rfl⟩:=List.mem_map.1 hcc
    have:=hH1.nms _ (by omega) d hd
    omega
  ·rw [hlen2] at hb
   by_cases hbL:b<L
   ·have:H2[b]'(by omega)=st.hp[b]'(by omega):=List.getElem_append_left (by omega)
    rw [this]
    exact (S.hr.blk b (by omega)).mono M (M.nm b hbL) (λg hg=>hold g (S.hr.lt b g hg).2.1) (λc hc=>by have:=S.hr.nms b (by omega) c hc;omega)
   ·have:H2[b]'(by omega)=(Hc[b-L]'(by omega)).rn (L + ·):=by
     simp only [H2]
     rw [List.getElem_append_right (by omega),List.getElem_map]
     simp [hL]
    rw [this]
    refine (hH1.blk _ (by omega)).rn hyv (by
     rcases hclr with h | h
     ·exact .inr h
     ·exact .inl (List.all_eq_true.1 h.2 _ (List.getElem_mem _))) ?_ (λc hc=>?_)
    ·have:=hnm2 (b-L) (by omega)
     rw [show L+(b-L)=b by omega] at this
     exact this
    ·have hlt:=hH1.nms _ (by omega) c hc
     exact ⟨hnm2 c hlt,hsh c hlt⟩
 have hstp:Stp C Γ st.hp w Φ Γ2 H2 w' Φ:=by
  refine ⟨hs.os,hs.tape,hs.output,hs.size,hst2,λg hg=>(hst2n g hg).imp (λh=>h) (λh=>h.1),λb g h=>?_,λ_ h=>.inl h,λg hg _ _=>hold g hg,rfl,by omega,λb hb hf=>⟨M.nm b (by omega),M.shp b (by omega),λg hg=>M.hs b g (by omega) hg⟩⟩
  simp only [Γ2] at h
  split at h
  ·exact .inl ⟨by omega,h⟩
  ·exact .inr (hnew _ g h).2.1
 have S':=S.step hI hstp (λg hg=>hold g (hI.foot _ _ _ _ S.inv g hg).1) hr2 (S.sr.mono M (λc hc=>by have:=S.sr.nms c hc;omega))
 refine ⟨⟨_,_,Γ2,Φ,hk,hstp,S',?_,λc hc=>?_⟩,⟨hold,hs.size⟩,hs.os,hs.tape,hs.output⟩
 ·exact hv.rn hyv (by rcases hclr with h | h;exact .inr h;exact .inl h.1) (λc hc=>⟨hnm2 c (hvn c hc),hsh c (hvn c hc)⟩)
 ·rw [PV.rn_nms] at hc
  obtain ⟨d,hd,rfl⟩:=List.mem_map.1 hc
  have:=hvn d hd
  show L+d<H2.length
  omega
theorem JP {g:Nat} {args:List PV} {Vs:Array Value} {ret:PV} {Hc:List Blk} {k:PV->St σ->Option R} (hI:HI I) (hC:U2 C cl) (S:SI C I Γ Φ st tmps w) (hc:CR Γ (A1 st.hp) w args Vs) (hna:B3 (I1 st.hp args)=[]) (hcl:cl Unit (λ_ _=>none) g (I1 st.hp args) [] ()=some (ret,Hc,()))
  (hret:ret.clean=true) (hH:Hc.all Blk.clean=true) (hk:k (ret.rn (st.hp.length + ·)) { sl:=st.sl,hp:=st.hp++Hc.map (Blk.rn (st.hp.length + ·)),s:=st.s } = some r):I2 C.P ((callFunc g Vs).run C.P w) (IS C I Γ Φ st tmps w k r):=by
 have hc1:=hc.snap S.hr
 let Γc:Ctx:={ Γ.all with nm:=λ_=>none }
 have hc2:CR Γc (A1 []) w (I1 st.hp args) Vs:=hc1.bare hna (λ_ h=>h) rfl
 exact (Qo hI S (St0:=Γ.all.St) (λ_ h=>Or.inl h) (.inr ⟨hret,hH⟩)
  (hC Unit I0 _ Γ.yv Af3 Af4 g _ [] () ret Hc () hcl Γc noΦ w Vs rfl (Fk (λ_=>rfl) (OF S)) (S.g.mono (λ_ _=>rfl) (λ_ h=>Or.inl h)) (λ_ h=>h) (λb g h=>by cases h) hc2 (by rw [hna];simp)) hk).mono λ_ _ h=>h.1
theorem Vh {g:Nat} {args:List PV} {Vs:Array Value} {pf:List PV->Tr} {ret:PV} {Hc:List Blk} {k:PV->St σ->Option R} (hI:HI I) (hX:XOK C) (S:SI C I Γ Φ st tmps w) (hc:CR Γ (A1 st.hp) w args Vs) (hg:C.X g=some pf) (hpf:G2 (pf (argX st.hp args))=some (ret,Hc))
  (hna:B3 (argX st.hp args)=[]) (hcl:Qc st.hp args=true\/(ret.clean=true/\Hc.all Blk.clean=true)) (hk:k (ret.rn (st.hp.length + ·)) { sl:=st.sl,hp:=st.hp++Hc.map (Blk.rn (st.hp.length + ·)),s:=st.s } = some r):I2 C.P ((callFunc g Vs).run C.P w) (λV w'=>IS C I Γ Φ st tmps w k r V w'/\E8 w w'):=by
 by_cases hr:Qc st.hp args=true
 ·have hc1:=hc.argX_plain hr
  let Γc:Ctx:={ Γ with nm:=λ_=>none }
  have hc2:CR Γc (A1 []) w (argX st.hp args) Vs:=hc1.bare hna (λ_ h=>h) rfl
  exact Qo hI S (St0:=Γ.St) (λ_ h=>h) (.inl λ_ h=>h) (hX.x g pf _ ret Hc hg hpf Γc w Vs (λ_=>rfl) (Fk (λ_=>rfl) S.hr.stlt) S.g hc2) hk
 ·have hcl':ret.clean=true/\Hc.all Blk.clean=true:=by rcases hcl with h | h;exact absurd h hr;exact h
  have hc1:=hc.argX S.hr
  let Γc:Ctx:={ Γ.all with nm:=λ_=>none }
  have hc2:CR Γc (A1 []) w (argX st.hp args) Vs:=hc1.bare hna (λ_ h=>h) rfl
  exact Qo hI S (St0:=Γ.all.St) (λ_ h=>Or.inl h) (.inr hcl') (hX.x g pf _ ret Hc hg hpf Γc w Vs (λ_=>rfl) (Fk (λ_=>rfl) (OF S)) (S.g.mono (λ_ _=>rfl) (λ_ h=>Or.inl h)) hc2) hk
theorem JR {g:Nat} {args:List PV} {Vs:Array Value} {pf:List PV->Tr} {ret:PV} {Hc:List Blk} {k:PV->St σ->Option R} (hI:HI I) (hX:XOK C) (S:SI C I Γ Φ st tmps w) (hc:CR Γ (A1 st.hp) w args Vs) (hg:C.X g=some pf) (hpf:G2 (pf (argX st.hp args))=some (ret,Hc))
  (hna:B3 (argX st.hp args)=[]) (hcl:Qc st.hp args=true\/(ret.clean=true/\Hc.all Blk.clean=true)) (hk:k (ret.rn (st.hp.length + ·)) { sl:=st.sl,hp:=st.hp++Hc.map (Blk.rn (st.hp.length + ·)),s:=st.s } = some r):I2 C.P ((callFunc g Vs).run C.P w) (IS C I Γ Φ st tmps w k r):=
 (Vh hI hX S hc hg hpf hna hcl hk).mono λ_ _ h=>h.1
end
def Ctx.lent (Γ:Ctx) (ns:List Nat):Ctx:={ Γ with nm:=λi=>(ns[i]?).bind Γ.nm }
def Ctx.back (Γ Γ1:Ctx) (ns:List Nat) (L:Nat) (d:Bool):Ctx:=
 { St:=Γ1.St,nm:=λb=>if b∈ns then Γ1.nm (D8 ns b) else if b<L then Γ.nm b else if d=true then none else Γ1.nm (ns.length+(b-L)),yv:=Γ.yv,yv1:=Γ.yv1 }
section
variable {σ R : Type} {r : R} {C : Cfg} {I : σ -> (Nat -> Prop) -> (Nat -> Prop) -> World -> Prop} {Γ : Ctx} {H : List Blk} {Φ : Nat -> Prop} {st : St σ} {tmps : Array Value} {w : World} {cl : D0} {yh : Yh σ} {yv : Value}
def H9 (H:List Blk) (ns:List Nat):List Blk:=ns.map λb=>(H.getD b .dead).rn (D8 ns)
theorem Il {ns:List Nat} {b:Nat} (h:b∈ns):(Γ.lent ns).nm (D8 ns b) = Γ.nm b:=by
 obtain ⟨h1,h2⟩:=R7 h
 simp only [Ctx.lent,List.getElem?_eq_getElem h1,h2,Option.bind_some]
theorem Ev {ns:List Nat} (hlt:∀ b∈ns,b<H.length) {i:Nat} (hi:i<ns.length):A1 (H9 H ns) i=A1 H ns[i]:=by
 have:=hlt _ (List.getElem_mem hi)
 simp only [A1,H9,List.getElem?_map,List.getElem?_eq_getElem hi,Option.map_some,Blk.rn_shp,List.getElem?_eq_getElem this]
 rw [List.getD_eq_getElem?_getD,List.getElem?_eq_getElem this]
 rfl
theorem GW {ns:List Nat} (hH:HR Γ H w) (hnd:ns.Nodup) (hlt:∀ b∈ns,b<H.length) (hcl:Z7 H ns=true):HR (Γ.lent ns) (H9 H ns) w:=by
 have hcs:=Yn hcl
 have key:∀ i g,(Γ.lent ns).nm i=some g->∃ h:i<ns.length,Γ.nm ns[i]=some g:=λi g h=>by
  simp only [Ctx.lent] at h
  cases hi:ns[i]? with
  | none=>rw [hi] at h;simp at h
  | some b=>
   obtain ⟨h1,h2⟩:=List.getElem?_eq_some_iff.1 hi
   rw [hi] at h
   exact ⟨h1,by rw [h2];exact h⟩
 have hget:∀ b (h:b∈ns),H.getD b .dead=H[b]'(hlt b h):=λb h=>by rw [List.getD_eq_getElem?_getD,List.getElem?_eq_getElem (hlt b h)];rfl
 refine ⟨λi j g h1 h2=>?_,λi g h=>?_,hH.stlt,λi hi c hc=>?_,λi hi=>?_⟩
 ·obtain ⟨hi,e1⟩:=key i g h1
  obtain ⟨hj,e2⟩:=key j g h2
  have:=hH.inj _ _ g e1 e2
  exact (List.getElem_inj hnd).1 this
 ·obtain ⟨hi,e1⟩:=key i g h
  have:=hH.lt _ g e1
  exact ⟨by simpa [H9] using hi,this.2⟩
 ·simp only [H9,List.length_map] at hi ⊢
  simp only [H9,List.getElem_map,Blk.rn_nms] at hc
  obtain ⟨d,hd,rfl⟩:=List.mem_map.1 hc
  exact (R7 (hcs _ (List.getElem_mem hi) d hd)).1
 ·simp only [H9,List.length_map] at hi
  have hm:=List.getElem_mem hi
  have e:(H9 H ns)[i]'(by simpa [H9] using hi)=(H[ns[i]]'(hlt _ hm)).rn (D8 ns):=by
   simp only [H9,List.getElem_map,hget _ hm]
  rw [e]
  refine BR.rn (Γ:=Γ) (Γ':=Γ.lent ns) (b':=i) rfl (hH.blk _ (hlt _ hm)) (.inr λ_ h=>h) ?_ (λc hc=>?_)
  ·simp only [Ctx.lent,List.getElem?_eq_getElem hi,Option.bind_some]
  ·have hcn:c∈ns:=hcs _ hm c (by rw [hget _ hm];exact hc)
   obtain ⟨q1,q2⟩:=R7 hcn
   exact ⟨Il hcn,by rw [Ev hlt q1,q2]⟩
theorem BM {L:Nat} {H:List Blk} (h:ZM L H=true):∀ x∈H,∀ c∈x.nms,c<L:=by
 intro x hx c hc
 simp only [ZM,List.all_eq_true,decide_eq_true_eq] at h
 exact h x hx c hc
theorem Vv {b:Nat} (hb:b<H.length):Z9 C (H.getD b .dead)=true↔Cb C (A1 H b):=by
 have e:H.getD b .dead=H[b]:=by rw [List.getD_eq_getElem?_getD,List.getElem?_eq_getElem hb];rfl
 rw [e]
 simp only [A1,List.getElem?_eq_getElem hb,Option.map_some]
 cases H[b]<;>simp [Z9,Cb,Blk.shp]
theorem Qu {g:Nat} {a1:List PV} {Vs:Array Value} {ret:PV} {Hc:List Blk} {s':σ} {k:PV->St σ->Option R} (hI:HI I) (hC:U2 C cl) (hy:OE C.P I yh yv) (hyv:Γ.yv=yv) (S:SI C I Γ Φ st tmps w) (hc:CR Γ (A1 st.hp) w a1 Vs) (hn:∀ c∈B3 a1,c<st.hp.length)
  (hcl:Z7 st.hp (W8 st.hp (B3 a1))=true) (hcall:cl σ yh g (rnL (D8 (W8 st.hp (B3 a1))) a1) (H9 st.hp (W8 st.hp (B3 a1))) st.s=some (ret,Hc,s'))
  (hk:k (Cp (J7 ((W8 st.hp (B3 a1)).filter λb=>!Z9 C (st.hp.getD b .dead)) st.hp) (W8 st.hp (B3 a1)) ret Hc).1
   { sl:=F7 ((W8 st.hp (B3 a1)).filter λb=>!Z9 C (st.hp.getD b .dead)) st.sl,hp:=(Cp (J7 ((W8 st.hp (B3 a1)).filter λb=>!Z9 C (st.hp.getD b .dead)) st.hp) (W8 st.hp (B3 a1)) ret Hc).2,s:=s' } = some r) :
  I2 C.P ((callFunc g Vs).run C.P w) (IS C I Γ Φ st tmps w k r):=by
 have hnd:=Rv st.hp (B3 a1)
 have hsub:=CB st.hp (B3 a1)
 have hlt:∀ b∈W8 st.hp (B3 a1),b<st.hp.length:=CA st.hp (B3 a1) (· < st.hp.length) (λb hb c hc=>by
  have e:st.hp.getD b .dead=st.hp[b]:=by rw [List.getD_eq_getElem?_getD,List.getElem?_eq_getElem hb];rfl
  rw [e] at hc
  exact S.hr.nms b hb c hc) hn
 generalize W8 st.hp (B3 a1)=ns at *
 have hHc:=GW S.hr hnd hlt hcl
 have hci:=λb (h:b∈ns)=>R7 h
 have hargs:CR (Γ.lent ns) (A1 (H9 st.hp ns)) w (rnL (D8 ns) a1) Vs:=by
  rw [Ga]
  refine ⟨by rw [List.length_map];exact hc.1,λj hj=>?_⟩
  have hj':j<a1.length:=by simpa using hj
  obtain ⟨U,e,q⟩:=hc.2 j hj'
  refine ⟨U,e,?_⟩
  rw [List.getElem_map]
  refine VP.rn (Γ:=Γ) (Γ':=Γ.lent ns) rfl q (.inr λ_ h=>h) (λc hc=>?_)
  have hcn:=hsub c (A8.2 ⟨j,hj',hc⟩)
  obtain ⟨q1,q2⟩:=hci c hcn
  exact ⟨Il hcn,by rw [Ev hlt q1,q2]⟩
 have hargn:∀ c∈B3 (rnL (D8 ns) a1),c<(H9 st.hp ns).length:=λc hc=>by
  rw [Av] at hc
  obtain ⟨d,hd,rfl⟩:=List.mem_map.1 hc
  simpa [H9] using (hci d (hsub d hd)).1
 refine (hC σ I yh yv hI hy g _ _ _ ret Hc s' hcall (Γ.lent ns) Φ w Vs hyv hHc S.g S.inv (λi g h=>?_) hargs hargn).mono ?_
 ·simp only [Ctx.lent] at h
  cases hi:ns[i]? with
  | none=>rw [hi] at h;simp at h
  | some b=>rw [hi] at h;exact S.dis b g h
 rintro V w' ⟨Γ1,Φ1,hs,hH1,hv,hvn,hi1,hd1⟩
 generalize hL:st.hp.length=L at *
 generalize hks:(ns.filter λb=>!Z9 C (st.hp.getD b .dead))=ks at *
 obtain ⟨kb1,kb2,kb3⟩:=Hg (Γ:=Γ) (sh:=A1 st.hp) (w:=w) ks st.hp
 have hlH:(H9 st.hp ns).length=ns.length:=by simp [H9]
 have hnc:ns.length<=Hc.length:=by have:=hs.len;omega
 simp only [Cp,kb1,hL] at hk
 generalize hf:Fj ns L=f at *
 have f1:∀ i (h:i<ns.length),f i=ns[i]:=λi h=>by rw [<-hf];simp only [Fj,if_pos h];exact O7 h
 have f2:∀ i,¬ i<ns.length->f i=L+(i-ns.length):=λi h=>by rw [<-hf];simp only [Fj,if_neg h]
 generalize hd:((ret.rn f).nms.all (· < L)&&ZM L ((Hc.take ns.length).map (Blk.rn f)))=d at hk
 let E:List Blk:=cond d [] ((Hc.drop ns.length).map (Blk.rn f))
 have hlen1:((Hc.take ns.length).map (Blk.rn f)).length=ns.length:=by simp;omega
 obtain ⟨sa1,sa2⟩:=Di ns ((Hc.take ns.length).map (Blk.rn f)) (J7 ks st.hp) hnd hlen1 (λb hb=>by rw [kb1];have:=hlt b hb;omega)
 have hE:(cond d (N2 (J7 ks st.hp) ns ((Hc.take ns.length).map (Blk.rn f))) (N2 (J7 ks st.hp) ns ((Hc.take ns.length).map (Blk.rn f))++(Hc.drop ns.length).map (Blk.rn f)))=N2 (J7 ks st.hp) ns ((Hc.take ns.length).map (Blk.rn f))++E:=by
  cases d<;>simp [E]
 rw [hE] at hk
 generalize hH2:N2 (J7 ks st.hp) ns ((Hc.take ns.length).map (Blk.rn f))++E=H2 at hk
 have hl2:H2.length=L+E.length:=by rw [<-hH2,List.length_append,sa1,kb1,hL]
 have hEl:E.length=if d=true then 0 else Hc.length-ns.length:=by cases d<;>simp [E]
 have g1:∀ b (hb:b∈ns),H2[b]? = some ((Hc[D8 ns b]'(by have:=(hci b hb).1;omega)).rn f):=λb hb=>by
  have hbl:=hlt b hb
  rw [<-hH2,List.getElem?_append_left (by rw [sa1,kb1,hL];exact hbl),sa2,if_pos hb]
  have hi:=(hci b hb).1
  have e:ns.idxOf b=D8 ns b:=rfl
  rw [e,List.getElem?_map,List.getElem?_take,if_pos hi,List.getElem?_eq_getElem (by omega)]
  rfl
 have g2:∀ b,b<L->b∉ns->H2[b]? = (J7 ks st.hp)[b]?:=λb hb hbn=>by
  rw [<-hH2,List.getElem?_append_left (by rw [sa1,kb1,hL];exact hb),sa2,if_neg hbn]
 have g3:∀ b,L<=b->(hb:b<H2.length)->d=false/\∃ h:ns.length+(b-L)<Hc.length,H2[b]? = some ((Hc[ns.length+(b-L)]).rn f):=λb hbL hb=>by
  have hd':d=false:=by
   rcases Bool.eq_false_or_eq_true d with h | h
   ·rw [hl2,hEl,h] at hb;simp at hb;omega
   ·exact h
  have h':ns.length+(b-L)<Hc.length:=by rw [hl2,hEl,hd'] at hb;simp at hb;omega
  refine ⟨hd',h',?_⟩
  rw [<-hH2,List.getElem?_append_right (by rw [sa1,kb1,hL];exact hbL),sa1,kb1,hL]
  simp only [E,hd',cond_false,List.getElem?_map,List.getElem?_drop,List.getElem?_eq_getElem h',Option.map_some]
 let Γ2:=Γ.back Γ1 ns L d
 have G:∀ i,i<Hc.length->(i<ns.length\/d=false)->Γ2.nm (f i) = Γ1.nm i/\A1 H2 (f i)=A1 Hc i/\f i<H2.length:=λi hi hg=>by
  by_cases h:i<ns.length
  ·rw [f1 i h]
   have hm:=List.getElem_mem h
   have hidx:D8 ns ns[i]=i:=by
    obtain ⟨q1,q2⟩:=hci _ hm
    exact (List.getElem_inj hnd).1 q2
   refine ⟨by simp only [Γ2,Ctx.back,if_pos hm,hidx],?_,by have:=hlt _ hm;omega⟩
   simp only [A1,g1 _ hm,Option.map_some,Blk.rn_shp,hidx,List.getElem?_eq_getElem hi]
  ·have hd':d=false:=by rcases hg with hg | hg;exact absurd hg h;exact hg
   have hbL:L+(i-ns.length)<H2.length:=by rw [hl2,hEl,hd'];simp;omega
   have hnn:L+(i-ns.length)∉ns:=λhm=>by have:=hlt _ hm;omega
   rw [f2 i h]
   refine ⟨?_,?_,hbL⟩
   ·simp only [Γ2,Ctx.back,if_neg hnn,hd']
    rw [if_neg (by omega),if_neg (by simp)]
    congr 1;omega
   ·obtain ⟨_,h',e⟩:=g3 _ (by omega) hbL
    have e2:ns.length+(L+(i-ns.length)-L)=i:=by omega
    simp only [A1,e,Option.map_some,Blk.rn_shp,List.getElem?_eq_getElem hi]
    congr 2
    simp only [e2]
 have gret:∀ c∈ret.nms,c<ns.length\/d=false:=λc hc=>by
  cases hdd:d with
  | false=>exact .inr rfl
  | true=>
   rw [hdd] at hd
   simp only [Bool.and_eq_true,List.all_eq_true,decide_eq_true_eq] at hd
   refine .inl (Decidable.byContradiction λh=>?_)
   have:=hd.1 (f c) (by rw [PV.rn_nms];exact List.mem_map_of_mem hc)
   rw [f2 c h] at this
   omega
 have glent:∀ i (hi:i<ns.length),∀ c∈(Hc[i]'(by omega)).nms,c<ns.length\/d=false:=λi hi c hc=>by
  cases hdd:d with
  | false=>exact .inr rfl
  | true=>
   rw [hdd] at hd
   simp only [Bool.and_eq_true] at hd
   refine .inl (Decidable.byContradiction λh=>?_)
   have hmem:(Hc[i]'(by omega)).rn f∈(Hc.take ns.length).map (Blk.rn f):=List.mem_map_of_mem (by rw [List.mem_take_iff_getElem];exact ⟨i,by omega,rfl⟩)
   have:=BM hd.2 _ hmem (f c) (by rw [Blk.rn_nms];exact List.mem_map_of_mem hc)
   rw [f2 c h] at this
   omega
 have hΓc:∀ i g,(Γ.lent ns).nm i=some g->∃ h:i<ns.length,Γ.nm ns[i]=some g:=λi g h=>by
  simp only [Ctx.lent] at h
  cases hi:ns[i]? with
  | none=>rw [hi] at h;simp at h
  | some b=>
   obtain ⟨q1,q2⟩:=List.getElem?_eq_some_iff.1 hi
   rw [hi] at h
   exact ⟨q1,by rw [q2];exact h⟩
 have hfoot:=hI.foot _ _ _ _ S.inv
 have hold:∀ b g,b∉ns->Γ.nm b=some g->w'.heap[g]? = w.heap[g]?:=λb g hb hg=>hs.frame g (S.hr.lt b g hg).2.1 (λi hi=>by
  obtain ⟨h1,h2⟩:=hΓc i g hi
  have:=S.hr.inj _ _ g h2 hg
  exact hb (this ▸ List.getElem_mem h1)) (S.dis b g hg)
 have hst:∀ g,Γ.St g->w'.heap[g]? = w.heap[g]?:=λg hg=>hs.frame g (S.hr.stlt g hg) (λi hi=>by
  obtain ⟨h1,h2⟩:=hΓc i g hi
  exact (S.hr.lt _ g h2).2.2 hg) (λhp=>(hfoot g hp).2 hg)
 have hown:∀ i g,Γ1.nm i=some g->(∃ h:i<ns.length,Γ.nm ns[i]=some g)\/w.heap.size<=g:=λi g h=>by
  rcases hs.own i g h with ⟨_,h⟩ | h
  ·exact .inl (hΓc i g h)
  ·exact .inr h
 have hks':∀ b,b∈ns->b∉ks->Cb C (A1 st.hp b):=λb hb hbk=>by
  rw [<-hks] at hbk
  have hbl:=hlt b hb
  rw [<-Vv (by omega)]
  simp only [List.mem_filter,not_and,Bool.not_eq_true'] at hbk
  simpa using hbk hb
 have hkeep:∀ b,b∈ns->Cb C (A1 st.hp b)->Γ2.nm b = Γ.nm b/\A1 H2 b=A1 st.hp b/\∀ g,Γ.nm b=some g->w'.shape? g=w.shape? g:=λb hb hfx=>by
  obtain ⟨q1,q2⟩:=hci b hb
  have e:=Ev (H:=st.hp) (λb hb=>by have:=hlt b hb;omega) q1
  rw [q2] at e
  obtain ⟨k1,k2,k3⟩:=hs.keep (D8 ns b) (by omega) (by rw [e];exact hfx)
  rw [Il hb] at k1 k3
  refine ⟨by simp only [Γ2,Ctx.back,if_pos hb];exact k1,?_,k3⟩
  have e5:A1 Hc (D8 ns b)=some (Hc[D8 ns b]'(by omega)).shp:=by
   simp only [A1]
   rw [List.getElem?_eq_getElem (by omega)]
   rfl
  rw [<-e,<-k2,e5]
  simp only [A1,g1 b hb,Option.map_some,Blk.rn_shp]
 have M:P7 Γ (A1 st.hp) w Γ2 (A1 H2) w' (λc=>c<L/\c∉ks):=by
  have key:∀ c,c<L->c∉ks->Γ2.nm c = Γ.nm c/\A1 H2 c=A1 st.hp c/\∀ g,Γ.nm c=some g->w'.shape? g=w.shape? g:=λc hc hck=>by
   by_cases hcn:c∈ns
   ·exact hkeep c hcn (hks' c hcn hck)
   ·refine ⟨by simp only [Γ2,Ctx.back,if_neg hcn,if_pos hc],?_,λg hg=>C3 (hold c g hcn hg)⟩
    rw [<-kb2 c]
    simp only [A1,g2 c hc hcn]
  exact ⟨hst,hs.sub,λc hc=>(key c hc.1 hc.2).1,λc hc=>(key c hc.1 hc.2).2.1,λc g hc hg=>(key c hc.1 hc.2).2.2 g hg,rfl⟩
 have hyv2:Γ2.yv = Γ1.yv:=by have:=hs.yv;exact this.symm
 have hr2:HR Γ2 H2 w':=by
  refine ⟨λb b' g h1 h2=>?_,λb g h=>?_,hH1.stlt,λb hb c hcc=>?_,λb hb=>?_⟩
  ·simp only [Γ2,Ctx.back] at h1 h2
   have case1:∀ x y,x∈ns->Γ1.nm (D8 ns x)=some g->y∉ns->Γ.nm y=some g->False:=λx y hx e1 hy' e2=>by
    rcases hown _ g e1 with ⟨q1,q2⟩ | q
    ·have:=S.hr.inj _ _ g q2 e2
     exact hy' (this ▸ List.getElem_mem q1)
    ·have:=(S.hr.lt y g e2).2.1;omega
   have case2:∀ x i,Γ.nm x=some g->¬ i<ns.length->Γ1.nm i=some g->False:=λx i e1 hi e2=>by
    rcases hown _ g e2 with ⟨q1,_⟩ | q
    ·exact hi q1
    ·have:=(S.hr.lt x g e1).2.1;omega
   split at h1
   ·rename_i hb
    split at h2
    ·rename_i hb'
     have:=hH1.inj _ _ g h1 h2
     rw [<-(hci b hb).2,<-(hci b' hb').2]
     simp only [this]
    ·rename_i hb'
     split at h2
     ·exact (case1 b b' hb h1 hb' h2).elim
     ·split at h2
      ·cases h2
      ·have:=hH1.inj _ _ g h1 h2
       have:=(hci b hb).1;omega
   ·rename_i hb
    split at h1
    ·rename_i hbL
     split at h2
     ·rename_i hb';exact (case1 b' b hb' h2 hb h1).elim
     ·split at h2
      ·exact S.hr.inj b b' g h1 h2
      ·split at h2
       ·cases h2
       ·exact (case2 b _ h1 (by omega) h2).elim
    ·rename_i hbL
     split at h1
     ·cases h1
     ·split at h2
      ·rename_i hb'
       have:=hH1.inj _ _ g h1 h2
       have:=(hci b' hb').1;omega
      ·split at h2
       ·exact (case2 b' _ h2 (by omega) h1).elim
       ·have:=hH1.inj _ _ g h1 h2;omega
  ·simp only [Γ2,Ctx.back] at h ⊢
   split at h
   ·rename_i hb
    have:=hH1.lt _ g h
    have:=hlt b hb
    exact ⟨by omega,(hH1.lt _ g h).2.1,(hH1.lt _ g h).2.2⟩
   ·split at h
    ·rename_i hbL
     have h1:=S.hr.lt b g h
     refine ⟨by omega,by have:=hs.size;omega,λhs1=>?_⟩
     rcases hs.stnew g hs1 with q | q
     ·exact h1.2.2 q
     ·omega
    ·rename_i hbL
     split at h
     ·cases h
     ·rename_i hd'
      have h1:=hH1.lt _ g h
      refine ⟨?_,h1.2.1,h1.2.2⟩
      rw [hl2,hEl,if_neg hd']
      omega
  ·by_cases hbn:b∈ns
   ·have e:=g1 b hbn
    rw [List.getElem?_eq_getElem hb] at e
    simp only [Option.some.injEq] at e
    rw [e,Blk.rn_nms] at hcc
    obtain ⟨c',hc',rfl⟩:=List.mem_map.1 hcc
    have hi:=(hci b hbn).1
    exact (G c' (hH1.nms _ (by omega) c' hc') (glent _ hi c' hc')).2.2
   ·by_cases hbL:b<L
    ·have e:=g2 b hbL hbn
     rw [List.getElem?_eq_getElem hb,List.getElem?_eq_getElem (by rw [kb1,hL];exact hbL)] at e
     simp only [Option.some.injEq] at e
     rw [e] at hcc
     have:=((kb3 b (by rw [kb1,hL];exact hbL) (by omega)).1 c hcc).2
     have:=S.hr.nms b (by omega) c this
     omega
    ·obtain ⟨hd',h',e⟩:=g3 b (by omega) hb
     rw [List.getElem?_eq_getElem hb] at e
     simp only [Option.some.injEq] at e
     rw [e,Blk.rn_nms] at hcc
     obtain ⟨c',hc',rfl⟩:=List.mem_map.1 hcc
     exact (G c' (hH1.nms _ h' c' hc') (.inr hd')).2.2
  ·by_cases hbn:b∈ns
   ·have e:=g1 b hbn
    rw [List.getElem?_eq_getElem hb] at e
    simp only [Option.some.injEq] at e
    rw [e]
    have hi:=(hci b hbn).1
    refine (hH1.blk _ (by omega)).rn hyv2 (.inr λ_ h=>h) (by simp only [Γ2,Ctx.back,if_pos hbn]) (λc' hc'=>?_)
    have:=G c' (hH1.nms _ (by omega) c' hc') (glent _ hi c' hc')
    exact ⟨this.1,this.2.1⟩
   ·by_cases hbL:b<L
    ·have e:=g2 b hbL hbn
     rw [List.getElem?_eq_getElem hb,List.getElem?_eq_getElem (by rw [kb1,hL];exact hbL)] at e
     simp only [Option.some.injEq] at e
     rw [e]
     have q:=kb3 b (by rw [kb1,hL];exact hbL) (by omega)
     refine (q.2 b (S.hr.blk b (by omega))).mono M (by simp only [Γ2,Ctx.back,if_neg hbn,if_pos hbL]) (λg hg=>hold b g hbn hg) (λc hc=>?_)
     have:=q.1 c hc
     exact ⟨by have:=S.hr.nms b (by omega) c this.2;omega,this.1⟩
    ·obtain ⟨hd',h',e⟩:=g3 b (by omega) hb
     rw [List.getElem?_eq_getElem hb] at e
     simp only [Option.some.injEq] at e
     rw [e]
     refine (hH1.blk _ h').rn hyv2 (.inr λ_ h=>h) ?_ (λc' hc'=>?_)
     ·simp only [Γ2,Ctx.back,if_neg hbn,if_neg hbL,hd']
      simp
     ·have:=G c' (hH1.nms _ h' c' hc') (.inr hd')
      exact ⟨this.1,this.2.1⟩
 have hstp:Stp C Γ st.hp w Φ Γ2 H2 w' Φ1:=by
  refine ⟨hs.os,hs.tape,hs.output,hs.size,hs.sub,hs.stnew,λb g h=>?_,hs.foot,λg hg hng hp=>hs.frame g hg (λi hi=>?_) hp,rfl,by omega,λb hb hfx=>?_⟩
  ·simp only [Γ2,Ctx.back] at h
   split at h
   ·rename_i hb
    rcases hown _ g h with ⟨q1,q2⟩ | q
    ·have hh:ns[D8 ns b]=b:=(hci b hb).2
     rw [hh] at q2
     exact .inl ⟨by have:=hlt b hb;omega,q2⟩
    ·exact .inr q
   ·split at h
    ·exact .inl ⟨by omega,h⟩
    ·split at h
     ·cases h
     ·rcases hown _ g h with ⟨q1,_⟩ | q
      ·omega
      ·exact .inr q
  ·obtain ⟨_,q2⟩:=hΓc i g hi
   exact hng _ q2
  ·by_cases hbn:b∈ns
   ·exact hkeep b hbn hfx
   ·have hbk:b∉ks:=λh=>hbn (by rw [<-hks] at h;exact (List.mem_filter.1 h).1)
    exact ⟨M.nm b ⟨by omega,hbk⟩,M.shp b ⟨by omega,hbk⟩,λg hg=>M.hs b g ⟨by omega,hbk⟩ hg⟩
 have hsr:SR Γ2 H2 w' (F7 ks st.sl) tmps:=by
  obtain ⟨a1',a2,a3⟩:=Ft (Γ:=Γ) (sh:=A1 st.hp) (w:=w) ks st.sl
  refine ⟨by rw [a1'];exact S.sr.size,λc hc=>by have:=S.sr.nms c (a2 c hc).2;omega,λi hi=>?_⟩
  have hi':i<st.sl.length:=by rw [a1'] at hi;exact hi
  obtain ⟨U,e,q⟩:=S.sr.slot i hi'
  refine ⟨U,e,(a3 i hi hi' U q).mono M λc hc=>?_⟩
  have hm:=a2 c (A8.2 ⟨i,hi,hc⟩)
  exact ⟨by have:=S.sr.nms c hm.2;omega,hm.1⟩
 refine ⟨_,_,Γ2,Φ1,hk,hstp,⟨hr2,hsr,S.g.mono hst hs.sub,hi1,λb g h=>?_⟩,?_,λc hc=>?_⟩
 ·intro hp
  simp only [Γ2,Ctx.back] at h
  split at h
  ·exact hd1 _ g h hp
  ·split at h
   ·rcases hs.foot g hp with q | q
    ·exact S.dis b g h q
    ·have:=(S.hr.lt b g h).2.1;omega
   ·split at h
    ·cases h
    ·exact hd1 _ g h hp
 ·exact hv.rn hyv2 (.inr λ_ h=>h) (λc hc=>by
   have:=G c (hvn c hc) (gret c hc)
   exact ⟨this.1,this.2.1⟩)
 ·rw [PV.rn_nms] at hc
  obtain ⟨c',hc',rfl⟩:=List.mem_map.1 hc
  exact (G c' (hvn c' hc') (gret c' hc')).2.2
end
section
variable {σ R : Type} {r : R} {C : Cfg} {I : σ -> (Nat -> Prop) -> (Nat -> Prop) -> World -> Prop} {Γ : Ctx} {Φ : Nat -> Prop} {st : St σ} {a : Act} {w : World} {cl : D0} {yh : Yh σ} {yv : Value} {o : Oper}
structure Ask (C:Cfg) (I:σ->(Nat->Prop)->(Nat->Prop)->World->Prop) (cl:D0) (yh:Yh σ) (yv:Value):Prop where
 hI:HI I
 hC:U2 C cl
 hX:XOK C
 hy:OE C.P I yh yv
theorem VE {g b:Nat} {args:List PV} {pf:SV->List (List SV)->Bool × List (List SV)} {x:SV} (h:Aw3 C g args=some (pf,b,x)):C.Z g=some pf/\(args=[.fl b,.s x]/\x≠.nilp\/args=[.fl b]/\x = .nilp):=by
 unfold Aw3 at h
 split at h
 ·rename_i h1
  split at h
  ·cases h
  ·rename_i hx
   simp only [Option.some.injEq,Prod.mk.injEq] at h
   obtain ⟨rfl,rfl,rfl⟩:=h
   exact ⟨h1,.inl ⟨rfl,hx⟩⟩
 ·rename_i h1
  simp only [Option.some.injEq,Prod.mk.injEq] at h
  obtain ⟨rfl,rfl,rfl⟩:=h
  exact ⟨h1,.inr ⟨rfl,rfl⟩⟩
 ·cases h
theorem SI.like' {tmps:Array Value} (hI:HI I) (S:SI C I Γ Φ st tmps w) {w':World} (h:E8 w w'):SI C I Γ Φ st tmps w'/\Stp C Γ st.hp w Φ Γ st.hp w' Φ:=
 S.wide hI (St':=Γ.St) h.1.1 h.1.2 (λ_ h=>h) (λ_ h=>.inl h) (λg hg=>Nat.lt_of_lt_of_le (S.hr.stlt g hg) h.1.2) h.2.1 h.2.2.1 h.2.2.2
theorem JS {args:List PV} {g b e sz:Nat} {v:Bool} {pf:SV->List (List SV)->Bool × List (List SV)} {x:SV} {els:List (List SV)} {Vs tmps:Array Value} {k:PV->St σ->Option R} (hI:HI I) (hz:IZ C.P g pf) (S:SI C I Γ Φ st tmps w) (hb:st.hp[b]? = some (.arr v e sz els)) (hc:CR Γ (A1 st.hp) w args Vs) (hargs:args=[.fl b,.s x]/\x≠.nilp\/args=[.fl b]/\x = .nilp) (hp:(pf x els).1=true)
  (hk:k (.tup []) { sl:=st.sl,hp:=st.hp.set b (.arr v e sz (pf x els).2),s:=st.s } = some r):I2 C.P ((callFunc g Vs).run C.P w) (IS C I Γ Φ st tmps w k r):=by
 obtain ⟨U,X,rfl,h1,hx⟩:∃ U X,Vs=Aw2 x U X/\VP Γ (A1 st.hp) w (.fl b) U/\VS Γ.St w x X:=by
  rcases hargs with ⟨rfl,hne⟩ | ⟨rfl,rfl⟩
  ·obtain ⟨U,e1,h1⟩:=hc.2 0 (by simp)
   obtain ⟨X,e2,h2⟩:=hc.2 1 (by simp)
   refine ⟨U,X,?_,h1,h2.inv_s⟩
   have hV:Vs = #[U,X]:=by
    have hs:Vs.size=2:=hc.1
    grind
   rw [hV]
   cases x<;>first | rfl | exact absurd rfl hne
  ·obtain ⟨U,e1,h1⟩:=hc.2 0 (by simp)
   refine ⟨U,.pointer none,?_,h1,.nilp⟩
   have hs:Vs.size=1:=hc.1
   show Vs = #[U]
   grind
 obtain ⟨z1,z2⟩:=hz Γ.St w x X els hx hp
 have hsh:∀ {s:Shp},A1 st.hp b=some s->s = .arr v e sz els.length:=λh=>by
  simp only [A1,hb,Option.map_some,Blk.shp,Option.some.injEq] at h
  exact h.symm
 have h1':VP Γ (A1 st.hp) w (.fl b) U:=h1
 cases h1' with
 | flv _ e' sz' h=>
  have:=hsh h
  simp only [Shp.arr.injEq] at this
  obtain ⟨rfl,rfl,rfl,h0⟩:=this
  have h0:=List.length_eq_zero_iff.1 h0.symm
  refine (z1 h0).mono ?_
  rintro V w' ⟨rfl,hn,hl⟩
  have hset:st.hp.set b (.arr true e' sz' (pf x els).2)=st.hp:=by
   rw [hn]
   rw [h0] at hb
   apply List.ext_getElem?
   grind
  rw [hset] at hk
  obtain ⟨S1,hs1⟩:=S.like' hI hl
  exact ⟨_,_,Γ,Φ,hk,hs1,S1,P6,by simp [PV.nms,B3]⟩
 | fl _ g0 v' e' sz' n cap h hv hg hcap hm hs=>
  have:=hsh h
  simp only [Shp.arr.injEq] at this
  obtain ⟨rfl,rfl,rfl,rfl⟩:=this
  have hne:¬ (v'=true/\els=[]):=by rintro ⟨q1,q2⟩;exact hv q1 (by rw [q2];rfl)
  obtain ⟨g',cur,hg2,hh,hsize,hlens,hels⟩:=S.hr.arr' hb hne
  obtain rfl:g0=g':=by rw [hg] at hg2;exact Option.some.inj hg2
  have hcs:cur.size=cap*sz':=by
   simp only [World.shape?,hh,Option.some.injEq,Prod.mk.injEq,true_and] at hs
   exact hs
  refine (z2 g0 cur e' sz' cap hh hcs hcap hm (S.hr.lt b g0 hg).2.2 S.hr.stlt hlens hels).mono ?_
  rintro V w' ⟨rfl,hlen,w1,cur',q1,q2,q3,q4,q5,q6,q7,q8,q9,q10⟩
  have hshp:(Blk.arr v' e' sz' (pf x els).2).shp=(Blk.arr v' e' sz' els).shp:=by simp only [Blk.shp,hlen]
  have hsw:w1.shape? g0=w.shape? g0:=by simp only [World.shape?,q1,hh,q2]
  have hle:w.heap.size<=w1.heap.size:=by omega
  have hst:=CO (C:=C) S.hr hb hg hshp q3 hsw hle q5 q6 q7
  have hhr:=NH S.hr hb hg hshp q3 hsw hle (.inr ⟨λhz=>hne ⟨hz.1,by
    have:=congrArg List.length hz.2
    rw [hlen] at this
    exact List.length_eq_zero_iff.1 this⟩,g0,cur',hg,q1,by rw [hlen,q2];exact hsize,q8,q9⟩) (by simp [Blk.nms])
  have S1:=S.step hI (hst.lift Φ) (λk hk=>q3 k (λek=>S.dis b g0 hg (ek ▸ hk))) hhr (S.sr.mono (Y8 S.hr hb hg hshp q3 hsw) (λc hc=>⟨trivial,by simpa using S.sr.nms c hc⟩))
  obtain ⟨S2,hs2⟩:=S1.like' hI q10
  exact ⟨_,_,Γ,Φ,hk,(hst.lift Φ).trans hs2,S2,P6,by simp [PV.nms,B3]⟩
theorem Qt {g:Nat} {args:List PV} {Vs tmps:Array Value} {k:PV->St σ->Option R} (A:Ask C I cl yh yv) (hyv:Γ.yv=yv) (h:Lg C cl yh g args st k=some r) (S:SI C I Γ Φ st tmps w) (hc:CR Γ (A1 st.hp) w args Vs) (hn:∀ c∈B3 args,c<st.hp.length) :
  I2 C.P ((callFunc g Vs).run C.P w) (IS C I Γ Φ st tmps w k r):=by
 unfold Lg at h
 split at h
 ·rename_i pf hX
  split at h
  ·rename_i hna
   obtain ⟨ret,Hc,hpf,h⟩:=S6 h
   have hpf:G2 (pf (argX st.hp args))=some (ret,Hc):=by
    cases hx:C.xp g with
    | true=>rw [hx] at hpf;exact (T8 hpf).1
    | false=>rw [hx] at hpf;exact hpf
   obtain ⟨h1,h2⟩:=A7 h
   exact JR A.hI A.hX S hc hX hpf (List.isEmpty_iff.1 hna) (by simpa only [Bool.or_eq_true,Bool.and_eq_true] using h1) h2
  ·cases h
 ·split at h
  ·rename_i pf b x hZ
   obtain ⟨hZ',hargs⟩:=VE hZ
   split at h
   ·rename_i v e sz els hb
    obtain ⟨h1,h2⟩:=A7 h
    exact JS A.hI (A.hX.z g pf hZ') S hb hc hargs h1 h2
   ·cases h
  dsimp only at h
  split at h
  ·rename_i hl
   split at h
   ·rename_i hcl
    have key:CR Γ (A1 st.hp) w (cond (C.lend g) args (I1 st.hp args)) Vs/\∀ c∈B3 (cond (C.lend g) args (I1 st.hp args)),c<st.hp.length:=by
     cases hlg:C.lend g with
     | true=>exact ⟨hc,hn⟩
     | false=>
      rw [hlg] at hl
      have hr:Rx args=false:=by simpa using hl
      obtain ⟨q1,q2⟩:=hc.snap_plain hr
      grind
    split at h
    ·rename_i pf hY
     obtain ⟨ret,Hc,hpf,h⟩:=S6 h
     refine Qu (s':=st.s) A.hI A.hX.y A.hy hyv S key.1 key.2 hcl ?_ h
     simp only [clY,hY]
     rw [show G2 (pf _ (H9 st.hp _))=some (ret,Hc) from hpf]
    ·split at h
     ·rename_i ret Hc s' hcall
      exact Qu A.hI A.hC A.hy hyv S key.1 key.2 hcl hcall h
     ·cases h
   ·cases h
  ·split at h
   ·rename_i hna
    split at h
    ·rename_i ret Hc u hcall
     split at h
     ·rename_i hret
      obtain ⟨h1,h2⟩:=A7 h
      exact JP A.hI A.hC S hc (List.isEmpty_iff.1 hna) hcall hret h1 h2
     ·cases h
    ·cases h
   ·cases h
theorem CR.append {sh:Nat->Option Shp} {x y:List PV} {X Y:Array Value} (hx:CR Γ sh w x X) (hy:CR Γ sh w y Y):CR Γ sh w (x++y) (X++Y):=by
 refine ⟨by rw [Array.size_append,List.length_append,hx.1,hy.1],λj hj=>?_⟩
 rw [List.length_append] at hj
 by_cases h:j<x.length
 ·obtain ⟨U,e,k⟩:=hx.2 j h
  grind
 ·obtain ⟨U,e,k⟩:=hy.2 (j-x.length) (by omega)
  refine ⟨U,by rw [Array.getElem?_append_right (by rw [hx.1];omega),hx.1];exact e,?_⟩
  grind
theorem H6 (x y:List PV):B3 (x++y)=B3 x++B3 y:=by
 induction x with
 | nil=>rfl
 | cons a x ih=>simp [B3,ih]
theorem VP.inv_fn' {sh:Nat->Option Shp} {V:Value} {f:Fn} {x y:List SV} (h:VP Γ sh w (.s (.fn f x y)) V):∃ A B,V = .func f A B/\CR Γ sh w (x.map .s) A/\CR Γ sh w (y.map .s) B:=by
 have hs:=h.inv_s
 cases hs with
 | fn _ _ _ A B As Bs hf hA hB ha hb hx hy=>
  refine ⟨A,B,rfl,⟨by simpa using hA,λj hj=>?_⟩,⟨by simpa using hB,λj hj=>?_⟩⟩
  ·have hj':j<x.length:=by simpa using hj
   exact ⟨As j,ha j hj',by rw [List.getElem_map];exact .s _ _ (hx j hj')⟩
  ·have hj':j<y.length:=by simpa using hj
   exact ⟨Bs j,hb j hj',by rw [List.getElem_map];exact .s _ _ (hy j hj')⟩
theorem VP.inv_fnr' {sh:Nat->Option Shp} {V:Value} {f:Fn} {x y:List PV} (h:VP Γ sh w (.fnr f x y) V):∃ A B,V = .func f A B/\CR Γ sh w x A/\CR Γ sh w y B:=by
 cases h with
 | fnr _ _ _ A B As Bs hf hA hB ha hb hx hy=>exact ⟨A,B,rfl,⟨hA,λj hj=>⟨As j,ha j hj,hx j hj⟩⟩,⟨hB,λj hj=>⟨Bs j,hb j hj,hy j hj⟩⟩⟩
theorem CI {sh:Nat->Option Shp}:∀ {args:List PV} {Vs:List Value},Eh args=true->args.length=Vs.length->(∀ j (h:j<args.length),∃ U,Vs[j]? = some U/\VP Γ sh w (args[j]) U)->∀ j (h:j<args.length),∃ U,Vs[j]? = some U/\VP Γ (λ_=>none) w (args[j]) U
 | [],Vs,_,_,_=>λj h=>by simp at h
 | v::r,[],_,hl,_=>by simp at hl
 | v::r,U::Us,hs,hl,hc=>by
  have h0:VP Γ sh w v U:=by
   obtain ⟨U',e,k⟩:=hc 0 (by simp)
   grind
  have hr:∀ j (h:j<r.length),∃ U,Us[j]? = some U/\VP Γ sh w (r[j]) U:=λj hj=>by
   obtain ⟨U',e,k⟩:=hc (j+1) (by simpa using hj)
   grind
  have key:Eh r=true/\VP Γ (λ_=>none) w v U:=by
   unfold Eh at hs
   split at hs
   ·grind
   ·rename_i he;cases he
    exact ⟨hs,.s _ _ h0.inv_s⟩
   ·rename_i l r' he
    cases he
    simp only [Bool.and_eq_true,Option.isSome_iff_exists] at hs
    obtain ⟨⟨vs,hvs⟩,hs⟩:=hs
    refine ⟨hs,?_⟩
    obtain ⟨A,rfl,hA,hcA⟩:=h0.inv_agg
    refine VP.mk_agg hA λj hj=>?_
    obtain ⟨U,e,k⟩:=hcA j hj
    refine ⟨U,e,?_⟩
    have:(l[j]).nms=[]:=by
     have:∀ (l:List PV) vs,Co l=some vs->∀ v∈l,v.nms=[]:=by
      intro l
      induction l with
      | nil=>intro _ _ v hv;simp at hv
      | cons x l ih=>
       intro vs h v hv
       simp only [Co] at h
       split at h
       ·rename_i a b ha hb
        rcases List.mem_cons.1 hv with rfl | hv
        ·unfold PV.sv? at ha
         split at ha
         ·rfl
         ·rfl
         grind
        grind
       grind
     exact this l vs hvs _ (List.getElem_mem hj)
    exact k.mono (Γ':=Γ) (ok:=λ_=>False) ⟨λ_ _=>rfl,λ_ h=>h,λ_ h=>h.elim,λ_ h=>h.elim,λ_ _ h=>h.elim,rfl⟩ (by rw [this];simp)
   grind
  intro j hj
  cases j with
  | zero=>exact ⟨U,rfl,by simpa using key.2⟩
  | succ j=>
   obtain ⟨U',e,k⟩:=CI key.1 (by simpa using hl) hr j (by simpa using hj)
   grind
theorem JQ {f:PV} {FV:Value} {args:List PV} {Vs tmps:Array Value} {k:PV->St σ->Option R} (A:Ask C I cl yh yv) (hyv:Γ.yv=yv) (h:Qv C cl yh f args st k=some r) (S:SI C I Γ Φ st tmps w) (hf:VP Γ (A1 st.hp) w f FV) (hfn:∀ c∈f.nms,c<st.hp.length)
  (hc:CR Γ (A1 st.hp) w args Vs) (hn:∀ c∈B3 args,c<st.hp.length) :
  I2 C.P ((do let d <-Deferred.ofValue FV Vs;invoke d.target d.args).run C.P w) (IS C I Γ Φ st tmps w k r):=by
 unfold Qv at h
 split at h
 ·rename_i g first caps
  obtain ⟨F,B,rfl,h1,h2⟩:=hf.inv_fn'
  have:=Qt A hyv h S ((h1.append hc).append h2) (λc hc=>by
   rw [H6,H6,Wt,Wt] at hc
   simp only [List.nil_append,List.append_nil] at hc
   exact hn c hc)
  simpa [Deferred.ofValue,invoke] using this
 ·rename_i g first caps
  obtain ⟨F,B,rfl,h1,h2⟩:=hf.inv_fnr'
  have:=Qt A hyv h S ((h1.append hc).append h2) (λc hc=>by
   rw [H6,H6] at hc
   simp only [List.mem_append] at hc
   simp only [PV.nms,List.mem_append] at hfn
   rcases hc with (hc | hc) | hc
   ·exact hfn c (.inl hc)
   ·exact hn c hc
   ·exact hfn c (.inr hc))
  simpa [Deferred.ofValue,invoke] using this
 ·split at h
  ·rename_i hsv
   unfold ydK at h
   split at h
   ·rename_i b s' hyb
    have hFV:FV=yv:=by
     cases hf
     exact hyv
    subst hFV
    refine (A.hy args st.s b s' hyb hsv Γ Φ w Vs S.inv S.hr.stlt ⟨hc.1,?_⟩).mono ?_
    ·intro j hj
     obtain ⟨U,e,q⟩:=CI (Vs:=Vs.toList) hsv (by simpa using hc.1.symm) (λj hj=>by obtain ⟨U,e,k⟩:=hc.2 j hj;exact ⟨U,by simpa using e,k⟩) j hj
     exact ⟨U,by simpa using e,q⟩
    ·rintro V w' ⟨rfl,St',Φ',hi,q1,q2,q3,q4,q5,q6,q7,q8,q9⟩
     have hfoot:=A.hI.foot _ _ _ _ S.inv
     have hold:∀ b g,Γ.nm b=some g->w'.heap[g]? = w.heap[g]?:=λb g hg=>q4 g (S.hr.lt b g hg).2.1 (S.dis b g hg)
     have hst:∀ g,Γ.St g->w'.heap[g]? = w.heap[g]?:=λg hg=>q4 g (S.hr.stlt g hg) (λhp=>(hfoot g hp).2 hg)
     let Γ2:Ctx:={ Γ with St:=St' }
     have M:P7 Γ (A1 st.hp) w Γ2 (A1 st.hp) w' (λ_=>True):=⟨hst,q1,λ_ _=>rfl,λ_ _=>rfl,λb g _ hg=>C3 (hold b g hg),rfl⟩
     have hr2:HR Γ2 st.hp w':=by
      refine ⟨S.hr.inj,λb g hg=>?_,q9,S.hr.nms,λb hb=>(S.hr.blk b hb).mono M rfl (λg hg=>hold b g hg) (λ_ _=>trivial)⟩
      have:=S.hr.lt b g hg
      refine ⟨this.1,by omega,λh=>?_⟩
      rcases q2 g h with h | h
      ·exact this.2.2 h
      ·omega
     refine ⟨_,_,Γ2,Φ',h,⟨q6,q7,q8,q5,q1,q2,λb g hg=>.inl ⟨(S.hr.lt b g hg).1,hg⟩,q3,λg hg _ hp=>q4 g hg hp,rfl,Nat.le_refl _,λb hb _=>⟨rfl,rfl,λg hg=>C3 (hold b g hg)⟩⟩,
      ⟨hr2,S.sr.mono M (λc hc=>⟨trivial,S.sr.nms c hc⟩),S.g.mono hst q1,hi,λb g hg hp=>?_⟩,.bool _,by simp [PV.nms]⟩
     rcases q3 g hp with h | h
     ·exact S.dis b g hg h
     ·have:=(S.hr.lt b g hg).2.1;omega
   ·cases h
  ·cases h
 ·cases h
def Nxt (C:Cfg) (I:σ->(Nat->Prop)->(Nat->Prop)->World->Prop) (Γ:Ctx) (Φ:Nat->Prop) (H:List Blk) (w:World) (ds:List Deferred) (k:St σ->Option R) (r:R) (next:Act->World->Prop):Prop:=
 ∀ st' a' w' Γ' Φ',k st'=some r->Stp C Γ H w Φ Γ' st'.hp w' Φ'->SI C I Γ' Φ' st' a'.tmps w'->a'.defers=ds->next a' w'
theorem put_defers (a:Act) (d:Option Tmp) (v:Value):(a.put d v).defers=a.defers:=by cases d<;>rfl
theorem HS {ro:Option Nat} {n:Nat} {k:St σ->Option R} {next:Act->World->Prop} {Q:Exit->Act->World->Prop} (A:Ask C I cl yh yv) (hyv:Γ.yv=yv) (h:opK C cl yh o st k=some r) (S:SI C I Γ Φ st a.tmps w) (hN:Nxt C I Γ Φ st.hp w a.defers k r next) :
  o.wpIn (C1 ro) n C.P a w next Q:=by
 refine ⟨λ_ _=>trivial,?_⟩
 have hnd:∀ c,o.op≠.defer c:=λc e=>by simp [opK,e] at h
 rw [Oper.semAt_eq _ _ _ hnd]
 by_cases hq:Pd o.op=true
 ·obtain ⟨c,hop⟩:∃ c,o.op = .call c:=by
   unfold Pd at hq
   split at hq
   ·exact ⟨_,‹_›⟩
   ·cases hq
  have h':=h
  simp only [opK,hop] at h'
  split at h'
  ·rename_i b hb;rw [hop] at hq;simp [Pd,hb] at hq
  ·rename_i f hf
   obtain ⟨hc,hn⟩:=S.list c.args
   have:=JQ A hyv h' S (S.opnd f).1 (S.opnd f).2 hc hn
   have he:execOp a.eval o=(do let d <-Deferred.ofValue (a.eval f) (c.args.map a.eval);invoke d.target d.args):=by simp only [execOp,hop,resolve,hf]
   rw [he]
   refine this ro n o a next Q ?_
   rintro V w' ⟨v,st',Γ',Φ',k1,k2,k3,k4,k5⟩
   exact hN _ (a.put o.dst V) w' Γ' Φ' k1 k2 ⟨k3.hr,k3.sr.put (ds:=a.defers) o k4 k5,k3.g,k3.inv,k3.dis⟩ (put_defers _ _ _)
  ·cases h'
 ·obtain ⟨V,w',Γ',st',h1,h2,h3,h4⟩:=LY A.hI (by simpa using hq) h S
  have hn:=hN st' (a.put o.dst V) w' Γ' Φ h1 h4 h3 (put_defers _ _ _)
  rcases h2 with h2 | ⟨rfl,h2⟩
  ·rw [h2];exact hn
  ·rw [h2];exact hn
theorem SR.set {Γ:Ctx} {H:List Blk} {sl:List PV} {tmps:Array Value} (h:SR Γ H w sl tmps) (g:Nat) {v:PV} (hv:∀ V,tmps[g]? = some V->VP Γ (A1 H) w v V) (hn:∀ c∈v.nms,c<H.length):SR Γ H w (sl.set g v) tmps:=by
 refine ⟨by simpa using h.size,λc hc=>?_,λi hi=>?_⟩
 ·obtain ⟨j,hj,hc⟩:=A8.1 hc
  rw [List.getElem_set] at hc
  split at hc
  ·grind
  ·exact h.nms c (A8.2 ⟨j,by simpa using hj,hc⟩)
 ·have hi':i<sl.length:=by simpa using hi
  obtain ⟨U,e1,e2⟩:=h.slot i hi'
  grind
theorem It {ro:Option Nat} {n:Nat} {Q:Exit->Act->World->Prop} {all:Array Oper} (A:Ask C I cl yh yv):∀ (rest:List Oper) {Γ:Ctx} {Φ:Nat->Prop} {st:St σ} {a:Act} {w:World} {k:St σ->Option R},Γ.yv=yv->Y3 C cl yh all rest st k=some r->SI C I Γ Φ st a.tmps w->
  Nxt C I Γ Φ st.hp w a.defers k r (λa' w'=>Q .normal a' w')->wpListIn (C1 ro) n C.P all Q rest a w
 | [],Γ,Φ,st,a,w,k,hyv,h,S,hN=>hN st a w Γ Φ h (Stp.refl S.hr) S rfl
 | o::rest,Γ,Φ,st,a,w,k,hyv,h,S,hN=>by
  have run:∀ {st:St σ},SI C I Γ Φ st a.tmps w->Nxt C I Γ Φ st.hp w a.defers k r (λa' w'=>Q .normal a' w')->opK C cl yh o st (λst'=>Y3 C cl yh all rest st' k)=some r->o.wpIn (C1 ro) n C.P a w (wpListIn (C1 ro) n C.P all Q rest) Q:=λS hN h=>
   HS A hyv h S λst' a' w' Γ' Φ' h1 h2 h3 h4=>It A rest (h2.yv.trans hyv) h1 h3 λst2 a2 w2 Γ2 Φ2 k1 k2 k3 k4=>hN st2 a2 w2 Γ2 Φ2 k1 (h2.trans k2) k3 (k4.trans h4)
  have skip:∀ {st:St σ},SI C I Γ Φ st a.tmps w->Nxt C I Γ Φ st.hp w a.defers k r (λa' w'=>Q .normal a' w')->Y3 C cl yh all rest { st with sl:=G8 o.dst (.tup []) st.sl } k=some r->wpListIn (C1 ro) n C.P all Q rest (a.put o.dst undef) w:=fun {st} S hN h=>
   It A rest (st:={ st with sl:=G8 o.dst (.tup []) st.sl }) hyv h (S.put (o:=o) P6 (by simp [PV.nms,B3])) (by rw [put_defers];exact hN)
  simp only [wpListIn]
  simp only [Y3] at h
  split at h
  ·rename_i hg
   have hw:Region.wanted o (yielded all a.tmps)=true:=by simp [Region.wanted,hg]
   grind
  ·rename_i j want hg
   split at h
   ·rename_i g hjg
    have hyd1:∀ b,a.tmps[g]? = some (.bool b)->yielded all a.tmps j=some b:=λb e=>by simp [yielded,hjg,e]
    have hyd0:(∀ b,a.tmps[g]?≠some (.bool b))->yielded all a.tmps j=none:=λhne=>by
     simp only [yielded,hjg,Option.bind_some]
    have hslot:∀ v,st.sl.getD g (.tup [])=v->∀ V,a.tmps[g]? = some V->VP Γ (A1 st.hp) w v V:=λv hv V hV=>by
     have hlt:g<st.sl.length:=by rw [<-S.sr.size];exact (Array.getElem?_eq_some_iff.1 hV).1
     obtain ⟨U,e1,e2⟩:=S.sr.slot g hlt
     grind
    split at h
    ·rename_i b hb
     have hlt:g<st.sl.length:=Decidable.byContradiction λhge=>by grind
     obtain ⟨U,e1,e2⟩:=S.sr.slot g hlt
     have hU:=(hslot _ hb U e1).inv_bool
     subst hU
     have hyd':yielded all a.tmps j=some b:=hyd1 b e1
     have S':SI C I Γ Φ { st with sl:=st.sl.set g (.s (.bool b)) } a.tmps w:=⟨S.hr,S.sr.set g (hslot _ hb) (by simp [PV.nms]),S.g,S.inv,S.dis⟩
     have hsp:(if (b==want)=true then opK C cl yh o { st with sl:=st.sl.set g (.s (.bool b)) } (λst'=>Y3 C cl yh all rest st' k) else Y3 C cl yh all rest { st with sl:=G8 o.dst (.tup []) (st.sl.set g (.s (.bool b))) } k)=some r:=by
      cases b<;>exact h
     by_cases hbw:b=want
     ·rw [if_pos (by simpa using hbw)] at hsp
      rw [if_pos (by simp [Region.wanted,hg,hyd',hbw])]
      grind
     ·rw [if_neg (by simpa using hbw)] at hsp
      rw [if_neg (by simp [Region.wanted,hg,hyd',hbw])]
      exact ⟨λ_ _=>trivial,skip S' hN hsp⟩
    ·rename_i hb
     have hyd':yielded all a.tmps j=none:=hyd0 λb hbb=>by
      obtain ⟨B,e,_⟩:=(hslot _ hb _ hbb).inv_tup
      cases e
     rw [if_neg (by simp [Region.wanted,hg,hyd'])]
     exact ⟨λ_ _=>trivial,skip S hN h⟩
    grind
   ·cases h
theorem Bh5 {ro:Option Nat} {n:Nat} {Q:Exit->Act->World->Prop} {all:Array Oper} {o1 o2:Oper} {rest:List Oper} {k:St σ->Option R} (A:Ask C I cl yh yv) (hyv:Γ.yv=yv) (hl:LE C o1 o2=true)
  (h:ZH C o1 o2 st.sl (λv=>Y3 C cl yh all rest { st with sl:=G8 o2.dst v (G8 o1.dst .bad st.sl) } k)=some r) (S:SI C I Γ Φ st a.tmps w) (hN:Nxt C I Γ Φ st.hp w a.defers k r (λa' w'=>Q .normal a' w')):wpListIn (C1 ro) n C.P all Q (o1::o2::rest) a w:=by
 unfold ZH at h
 split at h
 ·rename_i t len parts s d x hop1 hop2
  unfold LE at hl
  rw [hop1,hop2] at hl
  split at hl
  ·rename_i t' l' p' s' d' x' hg1 hg2 q1 q2
   cases q1
   cases q2
   simp only [Bool.and_eq_true] at hl
   obtain ⟨hs,hd,hx,hu8⟩:=hl
   obtain rfl:=Nat.eq_of_beq_eq_true hs
   obtain rfl:=Nat.eq_of_beq_eq_true hd
   have hx:o1.dst=some x:=by simpa using hx
   obtain ⟨hlt,h⟩:=A7 h
   have hlt:=Nat.le_of_ble_eq_true hlt
   obtain ⟨p1,p2⟩:=S.parts parts.toList
   let V1:Value:=.slice (some ⟨w.heap.size,0,none⟩) len len
   obtain ⟨v,e,B,hk,hu,hr,hW⟩:=Gv (ps:=parts.map λ(i,x)=>(i,a.eval x)) (sl:=G8 o1.dst .bad st.sl) (tmps:=(a.put o1.dst V1).tmps) S.hr h (by rw [Array.toList_map];exact p1)
   have he8:C.P.underlying e=some (.int .u8):=by
    have hsh:C.sh d = .slice e:=by simp only [Cfg.sh,Xn,hu]
    rw [hsh] at hu8
    dsimp only at hu8
    split at hu8
    ·rename_i h8;exact Qj h8
    ·cases hu8
   have hc:=Lib.run_convert_bytes_const (P:=C.P) w d e B len len hu he8
   simp only [wpListIn]
   rw [if_pos (by simp [Region.wanted,hg1])]
   refine ⟨λ_ _=>trivial,?_⟩
   rw [Oper.semAt_eq _ _ _ (λc e=>by rw [hop1] at e;cases e)]
   have h1:(execOp a.eval o1).run C.P w = .ok (.value V1) (w.alloc (.cells B e)):=by simp only [execOp,hop1];simp [hr,V1]
   rw [h1]
   show wpListIn (C1 ro) n C.P all Q (o2::rest) (a.put o1.dst V1) (w.alloc (.cells B e))
   simp only [wpListIn]
   rw [if_pos (by simp [Region.wanted,hg2])]
   refine ⟨λ_ _=>trivial,?_⟩
   rw [Oper.semAt_eq _ _ _ (λc e=>by rw [hop2] at e;cases e)]
   have hev:(a.put o1.dst V1).eval (.tmp x)=V1:=by
    have h0:a.tmps.size=st.sl.length:=S.sr.size
    have h9:x+1<=st.sl.length:=hlt
    have:x<a.tmps.size:=by rw [h0];exact h9
    rw [hx]
    simp [Act.put,Act.eval,this]
   have h2:(execOp (a.put o1.dst V1).eval o2).run C.P (w.alloc (.cells B e)) = .ok (.value V1) (w.alloc (.cells B e (B.size,B.size+1))):=by
    simp only [execOp,hop2,hev]
    simp [V1,hc]
   rw [h2]
   show wpListIn (C1 ro) n C.P all Q rest ((a.put o1.dst V1).put o2.dst V1) (w.alloc (.cells B e (B.size,B.size+1)))
   have hm:(do let v <-Instr.buildSlice d len (parts.map λ(i,x)=>(i,a.eval x));convert d d v:Sem Value).run C.P w = .ok V1 (w.alloc (.cells B e (B.size,B.size+1))):=by
    simp [hr,hc,V1]
   obtain ⟨V,w',Γ',g1,g2,g3,g4,g5,g6⟩:=hW _ (B.size,B.size+1) hm
   rw [hm] at g1
   obtain ⟨rfl,rfl⟩:V1=V/\w.alloc (.cells B e (B.size,B.size+1))=w':=by
    simp only [Result.ok.injEq] at g1
    exact g1
   have S1:SI C I Γ Φ { st with sl:=G8 o1.dst .bad st.sl } (a.put o1.dst V1).tmps w:=S.put (o:=o1) (v:=.bad) (V:=V1) (.bad V1) (by simp [PV.nms])
   have S2:=S1.after (o:=o2) (v:=v) A.hI g2 g3 g4 g5 g6
   exact It A rest (st:={ st with sl:=G8 o2.dst v (G8 o1.dst .bad st.sl) }) (g2.yv.trans hyv) hk S2 (λst2 a2 w2 Γ2 Φ2 k1 k2 k3 k4=>hN st2 a2 w2 Γ2 Φ2 k1 ((g2.lift Φ).trans k2) k3 (k4.trans (by rw [put_defers,put_defers])))
  ·cases hl
 ·cases h
theorem A80 {ro:Option Nat} {n:Nat} {Q:Exit->Act->World->Prop} {all:Array Oper} {k:St σ->Option R} (A:Ask C I cl yh yv):∀ (l:List Oper),Γ.yv=yv->UC C cl yh all st k l=some r->SI C I Γ Φ st a.tmps w->
  Nxt C I Γ Φ st.hp w a.defers k r (λa' w'=>Q .normal a' w')->wpListIn (C1 ro) n C.P all Q l a w
 | [],hyv,h,S,hN=>It A [] hyv h S hN
 | [o],hyv,h,S,hN=>It A [o] hyv h S hN
 | o1::o2::rest,hyv,h,S,hN=>by
  simp only [UC] at h
  cases hl:LE C o1 o2 with
  | true=>rw [hl] at h;exact Bh5 A hyv hl h S hN
  | false=>rw [hl] at h;exact It A (o1::o2::rest) hyv h S hN
end
section quiet
variable {F : Fence} {n : Nat} {P : Program} {ops : Array Oper} {md : Region.Mode} {K : World -> Prop}
theorem UZ {c:Code} {Q:Exit->Act->World->Prop} {a:Act} {w:World} (J:Nat->Act->World->Prop) (N:Nat) (h₀:J N a w)
  (round:∀ m a w,J m a w->c.wpIn F n P (Exit.then (λa' w'=>∃ m',m'<m/\J m' a' w') Q) a w):(Code.loop c).wpIn F n P Q a w:=by
 intro b k cs hro hb hr
 have key:∀ j a w,J j a w->∃ e a' w',Q e a' w'/\ArrivesIn (Machine.fenced P F) P (lone (b.atR a (.code c::.inLoop c::k)) cs w) b k cs e a' w':=by
  intro j
  induction j using Nat.strongRecOn with
  | _ j ih=>
   intro a w hI
   obtain ⟨e,a₁,w₁,hq,harr⟩:=round j a w hI b (.inLoop c::k) cs hro hb hr
   cases e with
   | normal=>
    obtain ⟨m,hlt,hI₁⟩:=hq
    obtain ⟨e₂,a₂,w₂,hq₂,harr₂⟩:=ih m hlt a₁ w₁ hI₁
    exact ⟨e₂,a₂,w₂,hq₂,.of_steps (StepsIn.trans harr (.one (fenced_calm hb hr rfl) stepR_inLoop)) harr₂⟩
   | exit id=>exact ⟨_,a₁,w₁,hq,.pass (x:=.inLoop c) rfl (λ_ _=>.inl (by simp)) harr⟩
   | goto l=>exact ⟨_,a₁,w₁,hq,.pass (x:=.inLoop c) rfl (λ_ _=>.inl (by simp)) harr⟩
   | ret=>exact ⟨_,a₁,w₁,hq,.pass (x:=.inLoop c) rfl (λ_ _=>.inl (by simp)) harr⟩
   | panic ch=>exact ⟨_,a₁,w₁,hq,.pass (x:=.inLoop c) rfl (λ_ _=>.inl (by simp)) harr⟩
   | outgrown=>exact ⟨_,a₁,w₁,hq,.pass (x:=.inLoop c) rfl (λ_ _=>.inl (by simp)) harr⟩
 obtain ⟨e,a',w',hq,harr⟩:=key N a w h₀
 exact ⟨e,a',w',hq,.of_steps (.one (fenced_calm hb hr rfl) stepR_loop) harr⟩
theorem T9 {b:Frame} {a:Act} {k:List Item} {cs:List Frame} {w:World} {c:Code}:step P (lone (b.atR a (.code (.scope c)::k)) cs w) = .next (lone (b.atR a (.code c::.inScope c::k)) cs w):=
 step_lone_go (by simp [stepG,stepG.exec,Frame.atR])
theorem Zd {b:Frame} {a:Act} {k:List Item} {cs:List Frame} {w:World} {c:Code}:step P (lone (b.atR a (.inScope c::k)) cs w) = .next (lone (b.atR a k) cs w):=
 step_lone_go (by simp [stepG,stepG.exec,Frame.atR])
theorem NF {c:Code} {Q:Exit->Act->World->Prop} {a:Act} {w:World} (h:c.wpIn F n P (λe a w=>(∀ l,e≠.goto l)/\Q e a w) a w):(Code.scope c).wpIn F n P Q a w:=by
 intro b k cs hro hb hr
 have h0:(lone (b.atR a (.code (.scope c)::k)) cs w).fenced P F:=fenced_calm hb hr rfl
 obtain ⟨e,a₁,w₁,⟨hg,hq⟩,harr⟩:=h b (.inScope c::k) cs hro hb hr
 cases e with
 | normal=>exact ⟨.normal,a₁,w₁,hq,.head h0 T9 (StepsIn.trans harr (.one (fenced_calm hb hr rfl) Zd))⟩
 | exit id=>
  have hx:exitTo id (.inScope c::k)=exitTo id k:=by simp [exitTo]
  exact ⟨.exit id,a₁,w₁,hq,λk' hk=>.head h0 T9 (harr.1 k' (by rw [hx];exact hk)),
   λhr' hk=>let ⟨k₁,h1,h2⟩:=harr.2 hr' (by rw [hx];exact hk);⟨k₁,h1,.head h0 T9 h2⟩⟩
 | goto l=>exact absurd rfl (hg l)
 | ret=>exact ⟨_,a₁,w₁,hq,.of_steps (.one h0 T9) harr⟩
 | panic ch=>exact ⟨_,a₁,w₁,hq,.of_steps (.one h0 T9) harr⟩
 | outgrown=>exact ⟨_,a₁,w₁,hq,.of_steps (.one h0 T9) harr⟩
end quiet
section
variable {σ R : Type} {r : R} {C : Cfg} {I : σ -> (Nat -> Prop) -> (Nat -> Prop) -> World -> Prop} {Γ : Ctx} {Φ : Nat -> Prop} {st : St σ} {a : Act} {w : World} {cl : D0} {yh : Yh σ} {yv : Value} {o : Oper}
theorem SI.like (hI:HI I) (S:SI C I Γ Φ st a.tmps w) {w':World} (h:E8 w w'):SI C I Γ Φ st a.tmps w'/\Stp C Γ st.hp w Φ Γ st.hp w' Φ:=
 S.like' hI h
def AS:PV->Value
 | .s (.bool b)=>.bool b
 | .s (.int k n)=>.int k n
 | .s (.str l)=>.string ⟨l.toArray⟩
 | _=>undef
def A04:PV->Value
 | .tup l=>.tuple (l.map AS).toArray
 | v=>AS v
theorem KA {Γ:Ctx} {sh:Nat->Option Shp} {w:World} {v:PV} {V:Value} (h:VP Γ sh w v V) (hd:v.det1=true):V=AS v:=by
 cases h with
 | s x V hx=>
  cases hx<;>simp [PV.det1,SV.det] at hd<;>simp [AS]
 | _=>simp [PV.det1] at hd
theorem A05 {Γ:Ctx} {sh:Nat->Option Shp} {w:World} {v:PV} {V:Value} (h:VP Γ sh w v V) (hd:v.det=true):V=A04 v:=by
 cases h with
 | s x V hx=>exact KA (sh:=sh) (.s x V hx) hd
 | tup l A As hA ha hl=>
  simp only [PV.det,List.all_eq_true] at hd
  simp only [A04]
  congr 1
  apply Array.ext
  ·simp [hA]
  ·intro j h1 h2
   have hj:j<l.length:=by rw [<-hA];exact h1
   have e:=ha j hj
   rw [Array.getElem?_eq_getElem h1] at e
   simp only [Option.some.injEq] at e
   simp only [List.getElem_toArray,List.getElem_map]
   rw [e]
   exact KA (hl j hj) (hd _ (List.getElem_mem hj))
 | _=>simp [PV.det] at hd
theorem FZ {Γ:Ctx} {sh:Nat->Option Shp} {w:World} {v:PV} (hd:v.det1=true):VP Γ sh w v (AS v)/\v.nms=[]:=by
 cases v with
 | s x=>
  cases x<;>simp [PV.det1,SV.det] at hd
  ·exact ⟨.s _ _ (.bool _),rfl⟩
  ·exact ⟨.s _ _ (.int _ _),rfl⟩
  ·rename_i l
   have:=VS.str (St:=Γ.St) (w:=w) (⟨l.toArray⟩:ByteArray)
   simp only at this
   exact ⟨.s _ _ this,rfl⟩
 | _=>simp [PV.det1] at hd
theorem Bf6 {Γ:Ctx} {sh:Nat->Option Shp} {w:World} {v:PV} (hd:v.det=true):VP Γ sh w v (A04 v)/\v.nms=[]:=by
 cases v with
 | s x=>exact FZ (v:=.s x) hd
 | tup l=>
  simp only [PV.det,List.all_eq_true] at hd
  refine ⟨VP.mk_tup (by simp) λj hj=>⟨AS (l[j]),by simp [hj],(FZ (hd _ (List.getElem_mem hj))).1⟩,?_⟩
  simp only [PV.nms]
  rw [List.eq_nil_iff_forall_not_mem]
  intro c hc
  obtain ⟨j,hj,hc⟩:=A8.1 hc
  rw [(FZ (Γ:=Γ) (sh:=sh) (w:=w) (hd _ (List.getElem_mem hj))).2] at hc
  simp at hc
 | _=>simp [PV.det] at hd
theorem Bf7 {v:PV} (hd:v.det=true) (f:Nat->Nat):v.rn f=v:=by
 cases v with
 | s x=>rfl
 | tup l=>
  simp only [PV.det,List.all_eq_true] at hd
  simp only [PV.rn]
  congr 1
  induction l with
  | nil=>rfl
  | cons a r ih=>
   simp only [rnL]
   have ha:=hd a (by simp)
   have:a.rn f=a:=by cases a<;>simp [PV.det1] at ha<;>rfl
   grind
 | _=>simp [PV.det] at hd
theorem R4 {P:Program} {g:Nat} {Vs:Array Value} {w:World} (h:Pl P g=true):(callFunc g Vs).run P w = .ok (.enter g Vs) w:=by
 unfold Pl at h
 split at h
 ·rename_i fn hf
  simp only [Bool.and_eq_true,Bool.not_eq_true',Option.isSome_iff_exists] at h
  obtain ⟨⟨c,hb⟩,hn⟩:=h
  have hn':¬ fn.name = "runtime.NumGoroutine":=by simpa using hn
  simp [callFunc,hf,hb,hn',Result.andThen]
 ·cases h
theorem Np {P:Program} {ro:Option Nat} {n f:Nat} {Vs:Array Value} {w:World} {R:Value->World->Prop} (hrun:(callFunc f Vs).run P w = .ok (.enter f Vs) w) (h:I2 P ((callFunc f Vs).run P w) R):CallsIn (C1 ro) (n-1) P f Vs w λe w'=>∃ V,e = .returned V/\R V w':=by
 rw [hrun] at h
 have:=h ro n { op:=.move (.const undef),dst:=some 0,guard:=none,type:=0,after:=#[],pos:=default } { tmps:=#[undef],defers:=[] } (λa' w'=>∃ V,a'.tmps[0]? = some V/\R V w') (λ_ _ _=>False) (λV w' hR=>⟨V,by simp [Act.put],hR⟩)
 rw [Oper.uponIn_enter] at this
 refine this.2.mono λe w' he=>?_
 cases e with
 | returned v=>
  obtain ⟨V,e1,e2⟩:=he
  simp [Act.put] at e1
  grind
 | panicked c=>exact he.elim
 | outgrown=>obtain ⟨_,_,h⟩:=he;exact h.elim
theorem ZV {ro:Option Nat} {n:Nat} {k:St σ->Option R} (hI:HI I) (hX:XOK C) (hq:Ey C o.op=true) (h:opK C cl yh o st k=some r) (S:SI C I Γ Φ st a.tmps w) :
  ∃ V st',k st'=some r/\(∀ w',E8 w w'->o.quietAtIn (C1 ro) n C.P a (E8 w') w' V)/\SI C I Γ Φ st' (a.put o.dst V).tmps w/\Stp C Γ st.hp w noΦ Γ st'.hp w noΦ:=by
 obtain ⟨c,hop⟩:∃ c,o.op = .call c:=by
  unfold Ey at hq
  grind
 rw [hop] at hq
 simp only [Ey] at hq
 split at hq
 ·rename_i g hcal
  simp only [Bool.and_eq_true,Option.isSome_iff_exists] at hq
  obtain ⟨⟨hxp,pf,hpfx⟩,hent⟩:=hq
  simp only [opK,hop,hcal,opnd,Qv,Lg,hpfx,hxp,cond_true,List.map_nil,List.nil_append,List.append_nil] at h
  split at h
  ·rename_i hna
   obtain ⟨ret,Hc,hpf,h⟩:=S6 h
   obtain ⟨hpf,hdet,rfl⟩:=T8 hpf
   obtain ⟨h1,h2⟩:=A7 h
   simp only [List.map_nil,List.append_nil,Bf7 hdet] at h2
   have hv:=Bf6 (Γ:=Γ) (sh:=A1 st.hp) (w:=w) hdet
   refine ⟨A04 ret,_,h2,λw' hw'=>?_,S.put hv.1 (by rw [hv.2];simp),Stp.refl S.hr⟩
   obtain ⟨S',_⟩:=S.like hI hw'
   obtain ⟨hc,hn⟩:=S'.list c.args
   have hc1:=hc.argX S'.hr
   let Γc:Ctx:={ Γ.all with nm:=λ_=>none }
   have hc2:CR Γc (A1 []) w' (argX st.hp (c.args.toList.map (opnd C st.sl))) (c.args.map a.eval):=hc1.bare (List.isEmpty_iff.1 hna) (λ_ h=>h) rfl
   have hcall:=hX.x g pf _ ret [] hpfx hpf Γc w' _ (λ_=>rfl) (Fk (λ_=>rfl) (OF S')) (S'.g.mono (λ_ _=>rfl) (λ_ h=>Or.inl h)) hc2
   have hcalls:=Np (ro:=ro) (n:=n) (R4 hent) hcall
   have hev:a.eval (.func g) = .func (.func g) #[] #[]:=rfl
   have he:execOp a.eval o=(do let d <-Deferred.ofValue (a.eval (.func g)) (c.args.map a.eval);invoke d.target d.args):=by simp only [execOp,hop,resolve,hcal]
   unfold Oper.quietAtIn
   rw [he,hev]
   have hrun:(do let d <-Deferred.ofValue (Value.func (.func g) #[] #[]) (c.args.map a.eval);invoke d.target d.args:Sem Next).run C.P w' = .ok (.enter g (c.args.map a.eval)) w':=by
    have:=R4 (P:=C.P) (Vs:=c.args.map a.eval) (w:=w') hent
    simpa [Deferred.ofValue,invoke] using this
   rw [hrun]
   refine ⟨rfl,λh=>(by simp [C1,Fence.wide] at h),hcalls.mono ?_⟩
   rintro e w'' ⟨V,rfl,Γ1,Φ1,hs,hH1,hvv,_⟩
   have:=A05 hvv hdet
   subst this
   exact ⟨rfl,⟨λg hg=>hs.frame g hg (λb=>by simp [Γc]) (λx=>x),hs.size⟩,hs.os,hs.tape,hs.output⟩
  ·cases h
 ·cases hq
def Out.exit':Out->Exit
 | .normal=>.normal
 | .exit id=>.exit id
 | .ret=>.ret
end
theorem On {a b:Nat} (h:a<=b):Nat.ble a b=true:=by rw [Nat.ble_eq];exact h
theorem Gu {a b:Nat} (h:Nat.ble a b=true):a<=b:=by rw [Nat.ble_eq] at h;exact h
theorem E8.refl (w:World):E8 w w:=⟨⟨λ_ _=>rfl,Nat.le_refl _⟩,rfl,rfl,rfl⟩
theorem E8.trans {a b c:World} (h:E8 a b) (k:E8 b c):E8 a c:=
 ⟨⟨λg hg=>(k.1.1 g (Nat.lt_of_lt_of_le hg h.1.2)).trans (h.1.1 g hg),Nat.le_trans h.1.2 k.1.2⟩,k.2.1.trans h.2.1,k.2.2.1.trans h.2.2.1,k.2.2.2.trans h.2.2.2⟩
def Ei (D:Nat->Prop) (w w':World):Prop:=((∀ g,g<w.heap.size->¬ D g->w'.heap[g]? = w.heap[g]?)/\w.heap.size<=w'.heap.size)/\w'.os=w.os/\w'.tape=w.tape/\w'.output=w.output
theorem E8.x {D:Nat->Prop} {a b:World} (h:E8 a b):Ei D a b:=⟨⟨λg hg _=>h.1.1 g hg,h.1.2⟩,h.2⟩
theorem Ei.trans {D:Nat->Prop} {a b c:World} (h:Ei D a b) (k:Ei D b c):Ei D a c:=
 ⟨⟨λg hg hd=>(k.1.1 g (Nat.lt_of_lt_of_le hg h.1.2) hd).trans (h.1.1 g hg hd),Nat.le_trans h.1.2 k.1.2⟩,k.2.1.trans h.2.1,k.2.2.1.trans h.2.2.1,k.2.2.2.trans h.2.2.2⟩
def RQ (D:Nat->Prop) (q:Nat) (a b:World):Prop:=(q=1->E8 a b)/\(q=2->Ei D a b)
theorem RQ.of {D:Nat->Prop} {q:Nat} {a b:World} (h:E8 a b):RQ D q a b:=⟨λ_=>h,λ_=>h.x⟩
theorem RQ.trans {D:Nat->Prop} {q:Nat} {a b c:World} (h:RQ D q a b) (k:RQ D q b c):RQ D q a c:=⟨λe=>(h.1 e).trans (k.1 e),λe=>(h.2 e).trans (k.2 e)⟩
def qK (k:Nat) (f:Bool):Nat:=cond (Nat.beq k 1) (cond f 2 1) 0
section
variable {F : Fence} {n : Nat} {P : Program} {ops : Array Oper} {md : Region.Mode} {D : Nat -> Prop} {far : Nat -> Bool}
def QF:Exit->Act->World->Prop:=λ_ _ _=>False
theorem Ba4 {o:Oper} {a:Act} {w:World} {N:Act->World->Prop} {Q:Exit->Act->World->Prop} (h:o.wpIn F n P a w N QF):o.wpIn F n P a w N Q:=by
 unfold Oper.wpIn at *
 refine ⟨h.1,?_⟩
 have h:=h.2
 generalize (o.semAt F.round a.eval).run P w=r at *
 cases r with
 | ok x w'=>
  cases x<;>simp only [Oper.uponIn] at h ⊢
  case value=>exact h
  case skip=>exact h
  case defer=>exact h
  case enter=>exact ⟨h.1,CallsIn.mono h.2 λe w'' he=>by
   cases e with
   | returned u=>exact he
   | panicked c=>exact he.elim
   | outgrown=>obtain ⟨_,_,h⟩:=he;exact h.elim⟩
  case row=>exact h
  case round=>exact ⟨h.1,RoundIn.mono h.2 λe w'' he=>by
   cases e with
   | returned u=>exact he
   | panicked c=>exact he.elim
   | outgrown=>obtain ⟨_,_,h⟩:=he;exact h.elim⟩
 | halt x w'=>
  cases x<;>simp only [Oper.uponIn] at h ⊢
  case panic=>exact h.elim
theorem Ae1 {i:Nat} {a:Act} {w:World} {N:Act->World->Prop} {Q:Exit->Act->World->Prop} (h:wpOpIn F n P ops QF i N a w):wpOpIn F n P ops Q i N a w:=by
 unfold wpOpIn at *
 split
 ·grind
 ·rename_i o ho
  simp only [ho] at h
  split
  ·rename_i hw;simp only [hw,if_true] at h;exact Ba4 h
  grind
def YQ (F:Fence) (n:Nat) (P:Program) (ops:Array Oper) (D:Nat->Prop) (q:Nat) (w0:World) (o:Oper) (v:Value) (a:Act):Prop:=
 o.askedIn F P a (λw=>RQ D q w0 w)/\
 ((Region.wanted o (yielded ops a.tmps)=true/\∀ w,RQ D q w0 w->o.quietAtIn F n P a (E8 w) w v)\/
  (Region.wanted o (yielded ops a.tmps)=false/\v=undef))
theorem YQ.step {q:Nat} {w0 w1:World} {o:Oper} {v:Value} {a:Act} (h:YQ F n P ops D q w0 o v a) (hl:RQ D q w0 w1):YQ F n P ops D q w1 o v a:=
 ⟨λw hw=>h.1 w (hl.trans hw),h.2.imp (λh=>⟨h.1,λw hw=>h.2 w (hl.trans hw)⟩) (λh=>h)⟩
theorem YQ.of_same {q:Nat} {w0:World} {o:Oper} {v:Value} {a a':Act} (hy:YQ F n P ops D q w0 o v a) (he:execOp a'.eval o=execOp a.eval o)
  (hw:Region.wanted o (yielded ops a'.tmps)=Region.wanted o (yielded ops a.tmps)) (hb:∀ w,o.about P w a'.eval=o.about P w a.eval):YQ F n P ops D q w0 o v a':=by
 unfold YQ Oper.quietAtIn Oper.askedIn at *
 rw [he,hw]
 exact ⟨λw hc f hf=>hy.1 w hc f (by rw [<-hb w];exact hf),hy.2⟩
theorem YQ.wpOpIn {q:Nat} {w0 w:World} {i:Nat} {o:Oper} {v:Value} {a:Act} (hi:ops[i]? = some o) (hnd:∀ c,o.op≠.defer c) (hy:YQ F n P ops D q w0 o v a) (hw:RQ D q w0 w) {K:Act->World->Prop} (h:∀ w',E8 w w'->K (a.put o.dst v) w'):wpOpIn F n P ops QF i K a w:=by
 unfold Go.wpOpIn
 simp only [hi]
 rcases hy.2 with ⟨hwt,hv⟩ | ⟨hwt,rfl⟩
 ·simp only [hwt,if_true]
  have h3:=hv w hw
  unfold Oper.quietAtIn at h3
  unfold Oper.wpIn
  refine ⟨hy.1 w hw,?_⟩
  rw [Oper.semAt_eq _ _ _ hnd]
  generalize (execOp a.eval o).run P w=r at *
  cases r with
  | ok x w'=>
   cases x<;>simp only [Oper.quietUponIn] at h3<;>simp only [Oper.uponIn]
   case value u=>
    obtain ⟨e1,e2⟩:=h3
    rw [e1,e2]
    exact h _ (E8.refl w)
   case skip=>
    obtain ⟨e1,e2⟩:=h3
    rw [e1,<-e2]
    exact h _ (E8.refl w)
   case enter f args=>
    obtain ⟨e1,hd,hc⟩:=h3
    rw [e1]
    exact ⟨hd,hc.mono λe w'' ⟨he,hw''⟩=>by subst he;exact h _ hw''⟩
  | halt x w'=>simp only [Oper.quietUponIn] at h3
 ·simp only [hwt,Bool.false_eq_true,if_false];exact ⟨hy.1 w hw,h _ (E8.refl w)⟩
theorem NG {q:Nat} {w0:World} {j:Nat} {oi oj:Oper} {v:Value} (hj:ops[j]? = some oj) (hap:oi.apart ops oj=true)
  (hsi:∀ cs b,oi.op≠.select cs b) (hsj:∀ cs b,oj.op≠.select cs b) (hnd:∀ c,oj.op≠.defer c) {K:Act->World->Prop} {a:Act} {w:World}
  (hy:YQ F n P ops D q w0 oi v a) (h:wpOpIn F n P ops QF j K (a.put oi.dst v) w) :
  wpOpIn F n P ops QF j (λa' w'=>YQ F n P ops D q w0 oi v a'/\K (a'.put oi.dst v) w') a w:=by
 obtain ⟨h1,h2,h3⟩:=Oper.apart_spec hap
 have keep:∀ (a:Act),YQ F n P ops D q w0 oi v a->∀ u,YQ F n P ops D q w0 oi v (a.put oj.dst u):=λa hy u=>
  hy.of_same (execOp_put oi hsi a oj.dst u h3) (wanted_put oi a oj.dst u h3) (λw=>about_put oi w a oj.dst u h3)
 unfold wpOpIn at *
 simp only [hj] at *
 rw [wanted_put oj a oi.dst v h1,about_put oj w a oi.dst v h1] at h
 split
 ·rename_i hw
  simp only [hw,if_true] at h
  unfold Oper.wpIn at *
  rw [about_put oj w a oi.dst v h1] at h
  refine ⟨h.1,?_⟩
  have h:=h.2
  rw [Oper.semAt_eq _ _ _ hnd,execOp_put oj hsj a oi.dst v h1] at h
  rw [Oper.semAt_eq _ _ _ hnd]
  have hexec:∀ d w',(execOp a.eval oj).run P w≠.ok (.defer d) w'\/True:=λ_ _=>.inr trivial
  generalize hr:(execOp a.eval oj).run P w=r at *
  cases r with
  | ok x w'=>
   cases x<;>simp only [Oper.uponIn] at h ⊢
   case value u=>exact ⟨keep a hy u,by rw [<-Act.put_comm a v u h2];exact h⟩
   case skip=>exact ⟨keep a hy _,by rw [<-Act.put_comm a v undef h2];exact h⟩
   case defer d=>
    have keepD:∀ d,YQ F n P ops D q w0 oi v { a with defers:=d::a.defers }:=λd=>hy.of_same rfl rfl (λ_=>rfl)
    refine ⟨keep _ (keepD d) _,?_⟩
    rw [<-Act.put_comm _ v undef h2,<-Act.put_defers]
    exact h
   case enter f args=>
    refine ⟨h.1,CallsIn.mono h.2 λe w'' he=>?_⟩
    cases e with
    | returned u=>exact ⟨keep a hy u,by rw [<-Act.put_comm a v u h2];exact he⟩
    | panicked c=>exact he
    | outgrown=>exact he
   case row row args=>exact ⟨h.1,RowsIn.mono h.2 λu w'' he=>⟨keep a hy u,by rw [<-Act.put_comm a v u h2];exact he⟩⟩
   case round l f tmps assign body=>
    refine ⟨h.1,RoundIn.mono h.2 λe w'' he=>?_⟩
    cases e with
    | returned u=>exact ⟨keep a hy u,by rw [<-Act.put_comm a v u h2];exact he⟩
    | panicked c=>exact he
    | outgrown=>exact he
  | halt x w'=>
   cases x<;>simp only [Oper.uponIn] at h ⊢
   case panic u=>exact h
 ·rename_i hw
  simp only [hw] at h
  exact ⟨h.1,keep a hy _,by rw [<-Act.put_comm a v undef h2];exact h.2⟩
def wpR (F:Fence) (n:Nat) (P:Program) (md:Region.Mode) (ops:Array Oper) (D:Nat->Prop) (wr fs:Nat->Bool) (Qn:Act->World->Prop):Nat->Array Bool->Act->World->Prop
 | 0,listed,a,w=>Region.ready md ops listed=[]/\Qn a w
 | f+1,listed,a,w=>(Region.ready md ops listed=[]->Qn a w)/\
  ∀ i∈Region.ready md ops listed,wpOpIn F n P ops QF i (λa' w'=>(wr i=false->E8 w w')/\(fs i=true->Ei D w w')/\∀ w1,E8 w' w1->wpR F n P md ops D wr fs Qn f (listed.setIfInBounds i true) a' w1) a w
theorem Bd {wr fs:Nat->Bool} {Q:Exit->Act->World->Prop} {Qn:Act->World->Prop} (hQ:∀ a w,Qn a w->Q .normal a w):∀ (f:Nat) (listed:Array Bool) (a:Act) (w:World),wpR F n P md ops D wr fs Qn f listed a w->wpAnyIn F n P md ops Q f listed a w
 | 0,_,_,_,h=>⟨h.1,hQ _ _ h.2⟩
 | f+1,_,_,_,h=>⟨λh0=>hQ _ _ (h.1 h0),λi hi=>Ae1 (wpOpIn_mono (λa' w' h=>Bd hQ f _ a' w' (h.2.2 w' (E8.refl w'))) (h.2 i hi))⟩
def DC (md:Region.Mode) (ops:Array Oper) (listed:Array Bool):Prop:=∀ j o,ops[j]? = some o->listed.getD j false=true->∀ e∈o.after,Region.binds md e=true->listed.getD e.on false=true
theorem KN {listed:Array Bool} {i j:Nat} (h:(listed.setIfInBounds i true).getD j false=true):j=i\/listed.getD j false=true:=by
 by_cases hij:i=j
 all_goals simp_all
theorem DC.set {listed:Array Bool} {i:Nat} (h:DC md ops listed) (hi:i∈Region.ready md ops listed):DC md ops (listed.setIfInBounds i true):=by
 intro j o ho hj e he hb
 refine getD_set_true ?_
 rcases KN hj with rfl | hj
 ·obtain ⟨_,o',ho',hall⟩:=mem_ready.1 hi
  grind
 ·exact h j o ho hj e he hb
def Yd (md:Region.Mode) (ops:Array Oper):Nat->Nat->Nat->Bool
 | 0,_,_=>false
 | f+1,j,i=>match ops[j]? with
  | some o=>(o.after.toList.any λe=>Region.binds md e&&Nat.beq e.on i) || (o.after.toList.any λe=>Region.binds md e&&Yd md ops f e.on i)
  | none=>false
theorem Sf {listed:Array Bool} {i:Nat} (hd:DC md ops listed) (hi:listed.getD i false=false):∀ f j,Yd md ops f j i=true->listed.getD j false=false/\j∉Region.ready md ops listed
 | 0,j,h=>by cases h
 | f+1,j,h=>by
  simp only [Yd] at h
  split at h
  ·rename_i o ho
   have key:∃ e∈o.after,Region.binds md e=true/\listed.getD e.on false=false:=by
    rw [Bool.or_eq_true,List.any_eq_true,List.any_eq_true] at h
    rcases h with ⟨e,he,hb⟩ | ⟨e,he,hb⟩
    ·rw [Bool.and_eq_true] at hb
     have:=Nat.eq_of_beq_eq_true hb.2
     grind
    ·rw [Bool.and_eq_true] at hb
     exact ⟨e,by simpa using he,hb.1,(Sf hd hi f e.on hb.2).1⟩
   obtain ⟨e,he,hb,hl⟩:=key
   refine ⟨?_,λhr=>?_⟩
   ·cases hj:listed.getD j false with
    | false=>rfl
    | true=>rw [hd j o ho hj e he hb] at hl;cases hl
   ·obtain ⟨_,o',ho',hall⟩:=mem_ready.1 hr
    grind
  ·cases h
theorem No {listed:Array Bool} {i:Nat} (h:i∈Region.ready md ops listed):listed.getD i false=false:=by
 have h0:=(mem_ready.1 h).1
 grind
theorem Ae2 {wr fs:Nat->Bool} {Qn:Act->World->Prop} {q:Nat} {i:Nat} {oi:Oper} {v:Value} (hi:ops[i]? = some oi) (hsel:∀ (j:Nat) (o:Oper) cs b,ops[j]? = some o->o.op≠.select cs b) (hnd:∀ (j:Nat) (o:Oper) c,ops[j]? = some o->o.op≠.defer c) :
  ∀ (fuel:Nat) (listed:Array Bool) (a:Act) (w0:World),
   (∀ j oj,ops[j]? = some oj->j≠i->listed.getD j true=false->(∀ e∈oj.after,Region.binds md e=true->e.on≠i)->oi.apart ops oj=true)->
   (∀ j,j≠i->listed.getD j true=false->wr j=true->(q=1\/(q=2/\fs j=false))->Yd md ops ops.size j i=true)->DC md ops listed->
   i∈Region.ready md ops listed->YQ F n P ops D q w0 oi v a->
   (∀ w,E8 w0 w->wpR F n P md ops D wr fs Qn fuel (listed.setIfInBounds i true) (a.put oi.dst v) w)->∀ w,E8 w0 w->wpR F n P md ops D wr fs Qn (fuel+1) listed a w:=by
 intro fuel
 induction fuel with
 | zero=>
  intro listed a w0 _ _ _ hr hy H w hw
  refine ⟨λh=>(by rw [h] at hr;cases hr),λj hj=>?_⟩
  by_cases hji:j=i
  ·subst hji
   exact hy.wpOpIn hi (λc=>hnd j oi c hi) (.of hw) λw' hl=>⟨λ_=>hl,λ_=>hl.x,λw1 h1=>H w1 (hw.trans (hl.trans h1))⟩
  ·have:=ready_mono hj hji
   rw [(H w hw).1] at this
   cases this
 | succ fuel ih=>
  intro listed a w0 hfree hwr hd hr hy H w hw
  refine ⟨λh=>(by rw [h] at hr;cases hr),λj hj=>?_⟩
  by_cases hji:j=i
  ·subst hji
   exact hy.wpOpIn hi (λc=>hnd j oi c hi) (.of hw) λw' hl=>⟨λ_=>hl,λ_=>hl.x,λw1 h1=>H w1 (hw.trans (hl.trans h1))⟩
  ·have h1:=(H w hw).2 j (ready_mono hj hji)
   obtain ⟨hjun,oj,hoj,hall⟩:=mem_ready.1 hj
   have hiun:=No hr
   have hnot:∀ e∈oj.after,Region.binds md e=true->e.on≠i:=λe he hb heq=>by grind
   have h2:=NG hoj (hfree j oj hoj hji hjun hnot) (λcs b=>hsel i oi cs b hi) (λcs b=>hsel j oj cs b hoj) (λc=>hnd j oj c hoj) (hy.step (w1:=w) (.of hw)) h1
   have hstep:∀ {k:Nat},k≠i->(listed.setIfInBounds j true).getD k true=false->listed.getD k true=false:=fun {k} hki hun=>by
    by_cases hjk:j=k
    all_goals simp_all
   refine wpOpIn_mono (λa' w' h3=>?_) h2
   obtain ⟨hy',hl,hlx,hR⟩:=h3
   refine ⟨hl,hlx,λw1 hw1=>?_⟩
   have hql:RQ D q w w':=by
    cases hwj:wr j with
    | false=>exact .of (hl hwj)
    | true=>
     have hno:(q=1\/(q=2/\fs j=false))->False:=λhq=>(Sf hd hiun ops.size j (hwr j hji hjun hwj hq)).2 hj
     refine ⟨λhq=>(hno (.inl hq)).elim,λhq=>?_⟩
     cases hf:fs j with
     | true=>exact hlx hf
     | false=>exact (hno (.inr ⟨hq,hf⟩)).elim
   refine ih (listed.setIfInBounds j true) a' w' (λk ok hk hki hun hno=>hfree k ok hk hki (hstep hki hun) hno) (λk hki hun hwk=>hwr k hki (hstep hki hun) hwk) (hd.set hj) (ready_mono hr (Ne.symm hji)) (hy'.step hql) (λw2 hw2=>?_) w1 hw1
   rw [Array.setIfInBounds_comm _ _ hji]
   exact hR w2 hw2
def F9 (F:Fence) (n:Nat) (P:Program) (ops:Array Oper) (D:Nat->Prop) (far:Nat->Bool) (kind:Nat->Nat) (E:Act->World->Prop):List Nat->Act->World->Prop
 | [],a,w0=>E a w0
 | i::rest,a,w0=>(kind i<=1->∃ o v,ops[i]? = some o/\YQ F n P ops D (qK (kind i) (far i)) w0 o v a/\F9 F n P ops D far kind E rest (a.put o.dst v) w0)/\
  (2<=kind i->∀ w,E8 w0 w->wpOpIn F n P ops QF i (λa' w'=>(kind i=2->E8 w w')/\(far i=true->Ei D w w')/\F9 F n P ops D far kind E rest a' w') a w)
def KL (md:Region.Mode) (ops:Array Oper) (far:Nat->Bool) (kind:Nat->Nat) (i:Nat) (listed:Array Bool):Bool:=
 (Region.ready md ops listed).contains i&&(Region.free md ops listed i&&(Nat.beq (kind i) 0 || (List.range ops.size).all λj=>Nat.beq j i || (listed.getD j true || (!(Nat.ble 3 (kind j)) || ((far i&&far j) || Yd md ops ops.size j i)))))
def Pe (md:Region.Mode) (ops:Array Oper) (far:Nat->Bool) (kind:Nat->Nat) (fin:Array Bool->Bool):List Nat->Array Bool->Bool
 | [],listed=>fin listed
 | i::r,listed=>cond (Nat.ble (kind i) 1) (KL md ops far kind i listed) ((Region.ready md ops listed)==[i])&&Pe md ops far kind fin r (listed.setIfInBounds i true)
def FT (md:Region.Mode) (ops:Array Oper) (far:Nat->Bool) (kind:Nat->Nat):List Nat->Array Bool->Bool:=Pe md ops far kind λlisted=>(Region.ready md ops listed).isEmpty
theorem RA {kind:Nat->Nat} {Qn:Act->World->Prop} (hs:Region.noSelect ops=true) (hnd:∀ (j:Nat) (o:Oper) c,ops[j]? = some o->o.op≠.defer c) (hk:∀ j,ops.size<=j->kind j<=1) {i fuel:Nat} {listed:Array Bool} {a:Act} {w0:World} {o:Oper} {v:Value}
  (hB:KL md ops far kind i listed=true) (hd:DC md ops listed) (hi:ops[i]? = some o) (hy:YQ F n P ops D (qK (kind i) (far i)) w0 o v a)
  (h:DC md ops (listed.setIfInBounds i true)->∀ w,E8 w0 w->wpR F n P md ops D (λj=>Nat.ble 3 (kind j)) far Qn fuel (listed.setIfInBounds i true) (a.put o.dst v) w):∀ w,E8 w0 w->wpR F n P md ops D (λj=>Nat.ble 3 (kind j)) far Qn (fuel+1) listed a w:=by
 intro w hw
 simp only [KL,Bool.and_eq_true] at hB
 obtain ⟨hr,hf,hwt⟩:=hB
 have hr':i∈Region.ready md ops listed:=by simpa using hr
 refine Ae2 (q:=qK (kind i) (far i)) hi (Region.noSelect_spec hs) hnd fuel listed a w0 (Region.free_spec hi hf) (λj hji hun hwj hq=>?_) hd hr' hy (h (hd.set hr')) w hw
 have hq1:kind i=1:=by
  cases hb:Nat.beq (kind i) 1 with
  | true=>exact Nat.eq_of_beq_eq_true hb
  | false=>simp [qK,hb] at hq
 have hff:(far i&&far j)=false:=by
  rw [hq1] at hq
  cases hfi:far i with
  | false=>rfl
  | true=>
   rcases hq with hq | ⟨_,hq⟩
   ·rw [hfi] at hq;cases hq
   ·rw [hq];rfl
 rw [hq1] at hwt
 simp only [show Nat.beq 1 0=false from rfl,Bool.false_or,List.all_eq_true,List.mem_range] at hwt
 have hjs:j<ops.size:=Decidable.byContradiction λhge=>by
  have:=hk j (by omega)
  have h3:=Gu hwj
  omega
 have:=hwt j hjs
 rw [show Nat.beq j i=false by cases hb:Nat.beq j i with | false=>rfl | true=>exact absurd (Nat.eq_of_beq_eq_true hb) hji,hun,hwj,hff] at this
 simpa using this
theorem Fm {kind:Nat->Nat} {Qn E:Act->World->Prop} {fin:Array Bool->Bool} {m:Nat} (hs:Region.noSelect ops=true) (hnd:∀ (j:Nat) (o:Oper) c,ops[j]? = some o->o.op≠.defer c) (hk:∀ j,ops.size<=j->kind j<=1)
  (hfin:∀ listed a w0,fin listed=true->DC md ops listed->E a w0->∀ w,E8 w0 w->wpR F n P md ops D (λj=>Nat.ble 3 (kind j)) far Qn m listed a w) :
  ∀ (rest:List Nat) (listed:Array Bool) (a:Act) (w0:World),Pe md ops far kind fin rest listed=true->DC md ops listed->F9 F n P ops D far kind E rest a w0->∀ w,E8 w0 w->wpR F n P md ops D (λj=>Nat.ble 3 (kind j)) far Qn (m+rest.length) listed a w
 | [],listed,a,w0,hB,hd,h,w,hw=>hfin listed a w0 hB hd h w hw
 | i::rest,listed,a,w0,hB,hd,h,w,hw=>by
  simp only [Pe,Bool.and_eq_true] at hB
  obtain ⟨hB1,hB2⟩:=hB
  simp only [F9] at h
  show wpR F n P md ops D _ _ Qn (m+rest.length+1) listed a w
  by_cases hki:kind i<=1
  ·rw [show Nat.ble (kind i) 1=true from On hki,cond_true] at hB1
   obtain ⟨o,v,hi,hy,hC⟩:=h.1 hki
   exact RA hs hnd hk hB1 hd hi hy (λhd' w1 hw1=>Fm hs hnd hk hfin rest _ _ w0 hB2 hd' hC w1 hw1) w hw
  ·rw [show Nat.ble (kind i) 1=false by cases hb:Nat.ble (kind i) 1 with | false=>rfl | true=>exact absurd (Gu hb) hki,cond_false] at hB1
   have hr:Region.ready md ops listed=[i]:=by simpa using hB1
   refine ⟨λh0=>(by rw [hr] at h0;cases h0),λj hj=>?_⟩
   have hji:j=i:=by rw [hr] at hj;simpa using hj
   subst hji
   refine wpOpIn_mono (λa' w' h3=>?_) (h.2 (by omega) w hw)
   refine ⟨λhwj=>h3.1 ?_,h3.2.1,λw1 hw1=>Fm hs hnd hk hfin rest _ a' w' hB2 (hd.set hj) h3.2.2 w1 hw1⟩
   have:¬ 3<=kind j:=λh=>by dsimp only at hwj;rw [On h] at hwj;cases hwj
   omega
def Nt (F:Fence) (n:Nat) (P:Program) (ops:Array Oper) (D:Nat->Prop) (far:Nat->Bool) (kind:Nat->Nat) (E:Act->World->Prop) (i4:Nat) (post:List Nat):List Nat->Act->World->Prop
 | [],a,w0=>∀ w,E8 w0 w->wpOpIn F n P ops QF i4 (λa' w'=>E8 w w'/\F9 F n P ops D far kind E post a' w') a w
 | i::rest,a,w0=>F9 F n P ops D far kind (Nt F n P ops D far kind E i4 post rest) [i] a w0/\
  (2<=kind i->∀ w,E8 w0 w->wpOpIn F n P ops QF i4 (λa' w'=>E8 w w'/\F9 F n P ops D far kind E ((i::rest)++post) a' w') a w)
def Ig (md:Region.Mode) (ops:Array Oper) (far:Nat->Bool) (kind:Nat->Nat) (i4:Nat) (post:List Nat):List Nat->Array Bool->Bool
 | [],listed=>(Region.ready md ops listed==[i4])&&FT md ops far kind post (listed.setIfInBounds i4 true)
 | i::r,listed=>cond (Nat.ble (kind i) 1) (KL md ops far kind i listed)
   ((Region.ready md ops listed).contains i&&((Region.ready md ops listed).all (λj=>Nat.beq j i || Nat.beq j i4)&&FT md ops far kind ((i::r)++post) (listed.setIfInBounds i4 true)))&&Ig md ops far kind i4 post r (listed.setIfInBounds i true)
theorem Ak1 {kind:Nat->Nat} {Qn:Act->World->Prop} {i4:Nat} {post:List Nat} (hs:Region.noSelect ops=true) (hnd:∀ (j:Nat) (o:Oper) c,ops[j]? = some o->o.op≠.defer c) (hk:∀ j,ops.size<=j->kind j<=1) :
  ∀ (mid:List Nat) (listed:Array Bool) (a:Act) (w0:World),Ig md ops far kind i4 post mid listed=true->DC md ops listed->Nt F n P ops D far kind (λa w0=>∀ w,E8 w0 w->Qn a w) i4 post mid a w0->∀ w,E8 w0 w->wpR F n P md ops D (λj=>Nat.ble 3 (kind j)) far Qn (post.length+1+mid.length) listed a w:=by
 have fin0:∀ (listed:Array Bool) (a:Act) (w0:World),(Region.ready md ops listed).isEmpty=true->DC md ops listed->(∀ w,E8 w0 w->Qn a w)->∀ w,E8 w0 w->wpR F n P md ops D (λj=>Nat.ble 3 (kind j)) far Qn 0 listed a w:=
  λlisted a w0 h _ hq w hw=>⟨by simpa using h,hq w hw⟩
 intro mid
 induction mid with
 | nil=>
  intro listed a w0 hB hd h w hw
  simp only [Ig,Bool.and_eq_true] at hB
  obtain ⟨hB1,hB2⟩:=hB
  have hr:Region.ready md ops listed=[i4]:=by simpa using hB1
  show wpR F n P md ops D _ _ Qn (post.length+1) listed a w
  refine ⟨λh0=>(by rw [hr] at h0;cases h0),λj hj=>?_⟩
  have hji:j=i4:=by rw [hr] at hj;simpa using hj
  subst hji
  refine wpOpIn_mono (λa' w' h3=>⟨λ_=>h3.1,λ_=>h3.1.x,λw1 hw1=>?_⟩) (h w hw)
  have:=Fm hs hnd hk fin0 post _ a' w' hB2 (hd.set hj) h3.2 w1 hw1
  rwa [Nat.zero_add] at this
 | cons i rest ih=>
  intro listed a w0 hB hd h w hw
  simp only [Ig,Bool.and_eq_true] at hB
  obtain ⟨hB1,hB2⟩:=hB
  simp only [Nt] at h
  obtain ⟨hc,he⟩:=h
  simp only [F9] at hc
  show wpR F n P md ops D _ _ Qn (post.length+1+rest.length+1) listed a w
  by_cases hki:kind i<=1
  ·rw [show Nat.ble (kind i) 1=true from On hki,cond_true] at hB1
   obtain ⟨o,v,hi,hy,hC⟩:=hc.1 hki
   exact RA hs hnd hk hB1 hd hi hy (λhd' w1 hw1=>ih _ _ w0 hB2 hd' hC w1 hw1) w hw
  ·rw [show Nat.ble (kind i) 1=false by cases hb:Nat.ble (kind i) 1 with | false=>rfl | true=>exact absurd (Gu hb) hki,cond_false] at hB1
   simp only [Bool.and_eq_true,List.all_eq_true,Bool.or_eq_true] at hB1
   obtain ⟨hi0,hall,hB3⟩:=hB1
   have hi:i∈Region.ready md ops listed:=by simpa using hi0
   refine ⟨λh0=>(by rw [h0] at hi;cases hi),λj hj=>?_⟩
   rcases hall j hj with hb | hb
   ·have hji:=Nat.eq_of_beq_eq_true hb
    subst hji
    refine wpOpIn_mono (λa' w' h3=>?_) (hc.2 (by omega) w hw)
    refine ⟨λhwj=>h3.1 ?_,h3.2.1,λw1 hw1=>ih _ a' w' hB2 (hd.set hj) h3.2.2 w1 hw1⟩
    have:¬ 3<=kind j:=λh=>by dsimp only at hwj;rw [On h] at hwj;cases hwj
    omega
   ·have hji:=Nat.eq_of_beq_eq_true hb
    subst hji
    refine wpOpIn_mono (λa' w' h3=>⟨λ_=>h3.1,λ_=>h3.1.x,λw1 hw1=>?_⟩) (he (by omega) w hw)
    have:=Fm hs hnd hk fin0 ((i::rest)++post) _ a' w' hB3 (hd.set hj) h3.2 w1 hw1
    rw [Nat.zero_add] at this
    rw [show post.length+1+rest.length=((i::rest)++post).length by rw [List.length_append,List.length_cons];omega]
    exact this
def Zf (d:Option Tmp) (a a':Act):Prop:=∀ t,d≠some t->a'.tmps[t]? = a.tmps[t]?
theorem N5 (a:Act) (d:Option Tmp) (v:Value):Zf d a (a.put d v):=λt ht=>by
 cases d with
 | none=>rfl
 | some d=>
  have:d≠t:=λe=>ht (by rw [e])
  simp [Act.put,this]
theorem UY {o:Oper} {a:Act} {w:World} {N:Act->World->Prop} (h:o.wpIn F n P a w N QF):o.wpIn F n P a w (λa' w'=>Zf o.dst a a'/\N a' w') QF:=by
 unfold Oper.wpIn at *
 refine ⟨h.1,?_⟩
 have h:=h.2
 generalize (o.semAt F.round a.eval).run P w=r at *
 cases r with
 | ok x w'=>
  cases x<;>simp only [Oper.uponIn] at h ⊢
  case value=>exact ⟨N5 _ _ _,h⟩
  case skip=>exact ⟨N5 _ _ _,h⟩
  case defer=>
   refine ⟨λt ht=>?_,h⟩
   exact N5 { a with defers:=_ } o.dst undef t ht
  case enter=>exact ⟨h.1,CallsIn.mono h.2 λe w'' he=>by
   cases e with
   | returned u=>exact ⟨N5 _ _ _,he⟩
   | panicked c=>exact he.elim
   | outgrown=>obtain ⟨_,_,h⟩:=he;exact h.elim⟩
  case row=>exact ⟨h.1,RowsIn.mono h.2 λu w'' he=>⟨N5 _ _ _,he⟩⟩
  case round=>exact ⟨h.1,RoundIn.mono h.2 λe w'' he=>by
   cases e with
   | returned u=>exact ⟨N5 _ _ _,he⟩
   | panicked c=>exact he.elim
   | outgrown=>obtain ⟨_,_,h⟩:=he;exact h.elim⟩
 | halt x w'=>
  cases x<;>simp only [Oper.uponIn] at h ⊢
  omega
theorem IM {i:Nat} {o:Oper} (ho:ops[i]? = some o) {a:Act} {w:World} {N:Act->World->Prop} (h:wpOpIn F n P ops QF i N a w):wpOpIn F n P ops QF i (λa' w'=>Zf o.dst a a'/\N a' w') a w:=by
 unfold wpOpIn at *
 simp only [ho] at h ⊢
 split
 ·rename_i hw;simp only [hw,if_true] at h;exact UY h
 ·rename_i hw
  simp only [hw] at h
  exact ⟨h.1,N5 _ _ _,h.2⟩
theorem Gy {kind:Nat->Nat} {E:Act->World->Prop} {i:Nat} {o:Oper} (ho:ops[i]? = some o) {a:Act} {w0:World} (h:F9 F n P ops D far kind (λa' w'=>Zf o.dst a a'->E a' w') [i] a w0):F9 F n P ops D far kind E [i] a w0:=by
 simp only [F9] at h ⊢
 refine ⟨λhk=>?_,λhk w hw=>?_⟩
 ·obtain ⟨o',v,h1,h2,h3⟩:=h.1 hk
  obtain rfl:=Option.some.inj (ho.symm.trans h1)
  exact ⟨_,v,h1,h2,h3 (N5 _ _ _)⟩
 ·exact wpOpIn_mono (λa' w' ⟨h1,h2,h2x,h3⟩=>⟨h2,h2x,h3 h1⟩) (IM ho (h.2 hk w hw))
theorem Nr {id:Nat} {Q:Exit->Act->World->Prop} {kind:Nat->Nat} {ord:List Nat} {a:Act} {w:World} (hm:P.follows .mixedOrders=true) (hs:Region.noSelect ops=true) (hnd:∀ (j:Nat) (o:Oper) c,ops[j]? = some o->o.op≠.defer c) (hk:∀ j,ops.size<=j->kind j<=1)
  (hlen:ord.length=ops.size) (hB:FT .any ops far kind ord (Array.replicate ops.size false)=true) (h:F9 F n P ops D far kind (λa w0=>∀ w,E8 w0 w->Q .normal a w) ord a w):(Code.region id ops true).wpIn F n P Q a w:=by
 refine wpIn_region_any hm ?_
 rw [<-hlen,<-Nat.zero_add ord.length]
 refine Bd (λ_ _ h=>h) _ _ _ _ (Fm (Qn:=λa w=>Q .normal a w) (m:=0) (fin:=λlisted=>(Region.ready .any ops listed).isEmpty) (E:=λa w0=>∀ w,E8 w0 w->Q .normal a w) hs hnd hk (λlisted a w0 h _ hq w hw=>⟨by simpa using h,hq w hw⟩) ord _ a w (by rw [Nat.zero_add,hlen];exact hB) (λj o ho hj=>?_) h _ (E8.refl w))
 simp only [Array.getD_eq_getD_getElem?,Array.getElem?_replicate] at hj
 split at hj<;>cases hj
def W9 (F:Fence) (n:Nat) (P:Program) (ops:Array Oper) (D:Nat->Prop) (far:Nat->Bool) (kind:Nat->Nat) (E:Act->World->Prop) (fl:List Nat):Nat->List Nat->Act->World->Prop
 | _,[],a,w0=>E a w0
 | 0,_::_,_,_=>False
 | m+1,i::rest,a,w0=>(kind i<=1->∃ o v,ops[i]? = some o/\YQ F n P ops D (qK (kind i) (far i)) w0 o v a/\W9 F n P ops D far kind E fl m rest (a.put o.dst v) w0)/\
  (2<=kind i->∀ w,E8 w0 w->wpOpIn F n P ops QF i (λa' w'=>(kind i=2->E8 w w')/\(far i=true->Ei D w w')/\W9 F n P ops D far kind E fl m rest a' w') a w/\
   ∀ f,okN fl f=true->f∈rest->wpOpIn F n P ops QF f (λa' w'=>E8 w w'/\W9 F n P ops D far kind E fl m (i::rest.erase f) a' w') a w)
def Cy (md:Region.Mode) (ops:Array Oper) (far:Nat->Bool) (kind:Nat->Nat) (fl:List Nat):Nat->List Nat->Array Bool->Bool
 | _,[],listed=>(Region.ready md ops listed).isEmpty
 | 0,_::_,_=>false
 | m+1,i::rest,listed=>cond (Nat.ble (kind i) 1) (KL md ops far kind i listed)
   ((Region.ready md ops listed).contains i&&((Region.ready md ops listed).all (λj=>Nat.beq j i || (okN fl j&&okN rest j)) &&
    rest.all (λf=>!(okN fl f&&(Region.ready md ops listed).contains f) || Cy md ops far kind fl m (i::rest.erase f) (listed.setIfInBounds f true)))) &&
   Cy md ops far kind fl m rest (listed.setIfInBounds i true)
theorem Ms:∀ {l:List Nat} {i:Nat},okN l i=true↔i∈l
 | [],i=>by simp [okN]
 | a::r,i=>by
  simp only [okN,Bool.or_eq_true,List.mem_cons,Ms (l:=r)]
  constructor
  ·rintro (h | h)
   ·exact .inl (Nat.eq_of_beq_eq_true h)
   ·exact .inr h
  ·rintro (rfl | h)
   ·exact .inl (Nat.beq_refl _)
   ·exact .inr h
theorem Ak0 {kind:Nat->Nat} {Qn:Act->World->Prop} {fl:List Nat} (hs:Region.noSelect ops=true) (hnd:∀ (j:Nat) (o:Oper) c,ops[j]? = some o->o.op≠.defer c) (hk:∀ j,ops.size<=j->kind j<=1) :
  ∀ (m:Nat) (seq:List Nat) (listed:Array Bool) (a:Act) (w0:World),Cy md ops far kind fl m seq listed=true->DC md ops listed->W9 F n P ops D far kind (λa w0=>∀ w,E8 w0 w->Qn a w) fl m seq a w0->∀ w,E8 w0 w->wpR F n P md ops D (λj=>Nat.ble 3 (kind j)) far Qn seq.length listed a w:=by
 intro m
 induction m with
 | zero=>
  intro seq listed a w0 hB hd h w hw
  cases seq with
  | nil=>exact ⟨by simpa [Cy] using hB,h w hw⟩
  | cons i rest=>cases hB
 | succ m ih=>
  intro seq listed a w0 hB hd h w hw
  cases seq with
  | nil=>exact ⟨by simpa [Cy] using hB,h w hw⟩
  | cons i rest=>
   simp only [Cy,Bool.and_eq_true] at hB
   obtain ⟨hB1,hB2⟩:=hB
   simp only [W9] at h
   obtain ⟨hc,he⟩:=h
   show wpR F n P md ops D _ _ Qn (rest.length+1) listed a w
   by_cases hki:kind i<=1
   ·rw [show Nat.ble (kind i) 1=true from On hki,cond_true] at hB1
    obtain ⟨o,v,hi,hy,hC⟩:=hc hki
    exact RA hs hnd hk hB1 hd hi hy (λhd' w1 hw1=>ih _ _ _ w0 hB2 hd' hC w1 hw1) w hw
   ·rw [show Nat.ble (kind i) 1=false by cases hb:Nat.ble (kind i) 1 with | false=>rfl | true=>exact absurd (Gu hb) hki,cond_false] at hB1
    simp only [Bool.and_eq_true,List.all_eq_true,Bool.or_eq_true] at hB1
    obtain ⟨hi0,hall,hB3⟩:=hB1
    have hi:i∈Region.ready md ops listed:=by simpa using hi0
    obtain ⟨hc1,hc2⟩:=he (by omega) w hw
    refine ⟨λh0=>(by rw [h0] at hi;cases hi),λj hj=>?_⟩
    rcases hall j hj with hb | ⟨hb,hbr⟩
    ·have hji:=Nat.eq_of_beq_eq_true hb
     subst hji
     refine wpOpIn_mono (λa' w' h3=>?_) hc1
     refine ⟨λhwj=>h3.1 ?_,h3.2.1,λw1 hw1=>ih _ _ a' w' hB2 (hd.set hj) h3.2.2 w1 hw1⟩
     have:¬ 3<=kind j:=λh=>by dsimp only at hwj;rw [On h] at hwj;cases hwj
     omega
    ·have hjr:j∈rest:=Ms.1 hbr
     refine wpOpIn_mono (λa' w' h3=>⟨λ_=>h3.1,λ_=>h3.1.x,λw1 hw1=>?_⟩) (hc2 j hb hjr)
     have hB4:=hB3 j hjr
     have hjc:(Region.ready md ops listed).contains j=true:=by simpa using hj
     rw [hb,hjc] at hB4
     simp only [Bool.and_self,Bool.not_true,Bool.false_eq_true,false_or] at hB4
     have:=ih _ _ a' w' hB4 (hd.set hj) h3.2 w1 hw1
     rw [List.length_cons,List.length_erase_of_mem hjr] at this
     have hp:0<rest.length:=List.length_pos_of_mem hjr
     rwa [show rest.length-1+1=rest.length by omega] at this
end
section
variable {σ R : Type} {r : R} {C : Cfg} {I : σ -> (Nat -> Prop) -> (Nat -> Prop) -> World -> Prop} {Γ : Ctx} {Φ : Nat -> Prop} {st : St σ} {a : Act} {w : World} {cl : D0} {yh : Yh σ} {yv : Value} {o : Oper}
theorem UJ {P:Program} {m:Sem Next} {w w1 w2:World} {x y:Next} (h:m.run P w = .ok x w1) (k:m.run P w = .ok y w2):x=y/\w1=w2:=by grind
theorem Bm (w:World) (x:Obj):E8 w (w.alloc x):=⟨⟨λg hg=>C6 (w':=w.alloc x) (o:=x) rfl hg,by rw [show (w.alloc x).heap=w.heap.push x from rfl];simp⟩,rfl,rfl,rfl⟩
theorem Zn {Γ:Ctx} {e:Nat} {ev:Operand->Value} (hok:(C.ti e).ok=true) (hop:o.op = .alloc e):∃ z:Value,(execOp ev o).run C.P w = .ok (.value (.pointer (some ⟨w.heap.size,0,none⟩))) (w.alloc (.cells z.cells e))/\(∀ (Γ:Ctx) sh w,CR Γ sh w ((C.ti e).ks.map J8) z.cells)/\∃ i,C.P.info? e=some i/\i.zero=some z:=by
 obtain ⟨i,z,hi,hz,_,_⟩:=Z4 (Γ:=Γ) (sh:=λ_=>none) (w:=w) hok
 refine ⟨z,?_,λΓ' sh w'=>?_,i,hi,hz⟩
 ·simp only [execOp,hop]
  simp [Instr.alloc,zeroValue,typeInfo,hi,hz,newVar,newRow]
 ·obtain ⟨i',z',hi',hz',_,h⟩:=Z4 (Γ:=Γ') (sh:=sh) (w:=w') hok
  grind
theorem Bh9 {ro:Option Nat} {n:Nat} {k:St σ->Option R} {next:Act->World->Prop} {Q:Exit->Act->World->Prop} (A:Ask C I cl yh yv) (hyv:Γ.yv=yv) (he:KF C o.op=true) (h:opK C cl yh o st k=some r) (S:SI C I Γ Φ st a.tmps w) (hN:Nxt C I Γ Φ st.hp w a.defers k r (λa' w'=>E8 w w'->next a' w')) :
  o.wpIn (C1 ro) n C.P a w next Q:=by
 refine ⟨λ_ _=>trivial,?_⟩
 have hnd:∀ c,o.op≠.defer c:=λc e=>by simp [opK,e] at h
 rw [Oper.semAt_eq _ _ _ hnd]
 unfold KF at he
 have add:Pd o.op=false->(∃ V' x,(execOp a.eval o).run C.P w = .ok (.value V') (w.alloc x))->o.uponIn (C1 ro) n C.P a next Q ((execOp a.eval o).run C.P w):=λhcall ⟨V',x,hl⟩=>by
  obtain ⟨V,w',Γ',st',h1,h2,h3,h4⟩:=LY A.hI hcall h S
  have hn:=hN st' (a.put o.dst V) w' Γ' Φ h1 h4 h3 (put_defers _ _ _)
  rcases h2 with h2 | ⟨rfl,h2⟩
  ·obtain ⟨_,rfl⟩:=UJ h2 hl
   rw [h2];exact hn (Bm w x)
  grind
 split at he
 ·rename_i t len parts hop
  refine add (by rw [hop];rfl) ?_
  simp only [opK,hop] at h
  obtain ⟨p1,p2⟩:=S.parts parts.toList
  cases hst:C.stab t with
  | true=>
   simp only [hst,cond_true] at h
   obtain ⟨v,hk,hv,V',x,hrun⟩:=El (ps:=parts.map λ(i,x)=>(i,a.eval x)) (sl:=st.sl) (tmps:=a.tmps) S.hr h (by rw [Array.toList_map];exact p1)
   refine ⟨V',x,?_⟩
   simp only [execOp,hop]
   simp [hrun]
  | false=>
  simp only [hst,cond_false] at h
  obtain ⟨v,H',hk,hv,V',x,hrun⟩:=Cx (ps:=parts.map λ(i,x)=>(i,a.eval x)) (sl:=st.sl) (tmps:=a.tmps) S.hr h (by rw [Array.toList_map];exact p1)
  refine ⟨V',x,?_⟩
  simp only [execOp,hop]
  simp [hrun]
 ·rename_i e hop
  refine add (by rw [hop];rfl) ?_
  by_cases hok:(C.ti e).ok=true
  ·obtain ⟨z,hr,_⟩:=Zn (Γ:=Γ) (ev:=a.eval) (w:=w) hok hop
   exact ⟨_,_,hr⟩
  ·simp [opK,hop,Oq,hok] at h
 ·rename_i t hop
  refine add (by rw [hop];rfl) ?_
  simp only [opK,hop] at h
  obtain ⟨v,H',hk,hv,V',x,hrun⟩:=Hi (sl:=st.sl) (tmps:=a.tmps) S.hr h
  refine ⟨V',x,?_⟩
  simp only [execOp,hop]
  simp [hrun]
 ·rename_i c hop
  split at he
  ·rename_i g hcal
   simp only [Bool.and_eq_true,Option.isSome_iff_exists] at he
   obtain ⟨⟨pf,hpfx⟩,hent⟩:=he
   simp only [opK,hop,hcal,opnd,Qv,Lg,hpfx,List.map_nil,List.nil_append,List.append_nil] at h
   split at h
   ·rename_i hna
    obtain ⟨ret,Hc,hpf,h⟩:=S6 h
    have hpf:G2 (pf (argX st.hp (c.args.toList.map (opnd C st.sl))))=some (ret,Hc):=by
     cases hx:C.xp g with
     | true=>rw [hx] at hpf;exact (T8 hpf).1
     | false=>rw [hx] at hpf;exact hpf
    obtain ⟨h1,h2⟩:=A7 h
    obtain ⟨hc,hn⟩:=S.list c.args
    have key:=Vh (k:=λv st'=>k { st' with sl:=G8 o.dst v st'.sl }) A.hI A.hX S hc hpfx hpf (List.isEmpty_iff.1 hna) (by simpa only [Bool.or_eq_true,Bool.and_eq_true] using h1) h2
    have hev:execOp a.eval o=(do let d <-Deferred.ofValue (a.eval (.func g)) (c.args.map a.eval);invoke d.target d.args):=by simp only [execOp,hop,resolve,hcal]
    have hrun:(execOp a.eval o).run C.P w=(callFunc g (c.args.map a.eval)).run C.P w:=by
     rw [hev]
     have e:a.eval (.func g) = .func (.func g) #[] #[]:=rfl
     rw [e]
     simp [Deferred.ofValue,invoke]
    rw [hrun]
    refine key ro n o a next Q ?_
    rintro V w' ⟨⟨v,st',Γ',Φ',k1,k2,k3,k4,k5⟩,hl⟩
    exact hN _ (a.put o.dst V) w' Γ' Φ' k1 k2 ⟨k3.hr,k3.sr.put (ds:=a.defers) o k4 k5,k3.g,k3.inv,k3.dis⟩ (put_defers _ _ _) hl
   ·cases h
  ·cases he
 ·cases he
theorem Wf (C:Cfg) (op:Op):(R8 C op=0/\((∃ x,op = .move x\/op = .assign x\/(∃ y z,op = .pick x y z)\/∃ i,op = .extract x i)\/(∃ x,op = .nilCheck x)\/(∃ t x lo hi mx,op = .slice t x lo hi mx)\/(∃ t x f,op = .fieldAddr t x f)\/(∃ t x i,op = .indexAddr t x i)\/(∃ t p,op = .build t p)\/∃ b t x y q,op = .binOp b t x y q))\/(R8 C op=1/\Mz C op=true)\/(R8 C op=2/\KF C op=true)\/R8 C op=3:=by
 unfold R8
 grind
theorem Bf2 {k:St σ->Option R} (hb:(∃ x,o.op = .move x\/o.op = .assign x\/(∃ y z,o.op = .pick x y z)\/∃ i,o.op = .extract x i)\/(∃ x,o.op = .nilCheck x)\/(∃ t x lo hi mx,o.op = .slice t x lo hi mx)\/(∃ t x f,o.op = .fieldAddr t x f)\/(∃ t x i,o.op = .indexAddr t x i)\/(∃ t p,o.op = .build t p)\/∃ b t x y q,o.op = .binOp b t x y q) (h:opK C cl yh o st k=some r) (S:SI C I Γ Φ st a.tmps w) :
  ∃ V st',k st'=some r/\(∀ w':World,(execOp a.eval o).run C.P w' = .ok (.value V) w')/\SI C I Γ Φ st' (a.put o.dst V).tmps w/\Stp C Γ st.hp w noΦ Γ st'.hp w noΦ:=by
 rcases hb with ⟨x,hx⟩ | ⟨x,hx⟩ | ⟨t,x,lo,hi,mx,hx⟩ | ⟨t,x,f,hx⟩ | ⟨t,x,i,hx⟩ | ⟨t,p,hx⟩ | ⟨b,t,x,y,q,hx⟩
 ·obtain ⟨V,st',h1,h2,h3,h4⟩:=Ir (a:=a) (show F2 C o.op=true by rcases hx with h | h | ⟨_,_,h⟩ | ⟨_,h⟩<;>rw [h]<;>rfl) h S
  refine ⟨V,st',h1,λw'=>?_,h3,h4⟩
  have e:=h2 w (Ext.refl w)
  rcases hx with hx | hx | ⟨y,z,hx⟩ | ⟨i,hx⟩<;>simp only [execOp,hx] at e ⊢
  ·cases e;rfl
  ·cases e;rfl
  ·generalize a.eval x=v at e ⊢
   cases v<;>simp [asBool] at e ⊢
   exact e
  ·unfold Instr.extract at e ⊢
   split at e
   ·split at e
    ·cases e;simp_all
    ·cases e
   ·cases e
 ·simp only [opK,hx] at h
  split at h
  ·rename_i hn
   have hv:=(S.opnd x).1
   refine ⟨a.eval x,_,h,λw'=>?_,S.put hv (S.opnd x).2,Stp.refl S.hr⟩
   simp only [execOp,hx]
   unfold SU at hn
   split at hn
   ·rename_i hx;rw [hx] at hv
    obtain ⟨ad,e⟩:=hv.inv_ptr
    simp_all
   ·rename_i hx;rw [hx] at hv
    obtain ⟨ad,e⟩:=hv.inv_sp
    simp_all
   ·rename_i hx;rw [hx] at hv
    obtain ⟨A,B,e⟩:=hv.inv_fn
    simp_all
   ·rename_i hx;rw [hx] at hv
    obtain ⟨A,B,e⟩:=hv.inv_fnr
    simp_all
   grind
  ·cases h
 ·exact MN (a:=a) hx h S
 ·exact KH (a:=a) hx h S
 ·exact LC (a:=a) hx h S
 ·exact JN (a:=a) hx h S
 ·exact XP (a:=a) hx h S
def Af5 (C:Cfg) (I:σ->(Nat->Prop)->(Nat->Prop)->World->Prop) (Γ:Ctx) (Φ:Nat->Prop) (H:List Blk) (w:World) (ds:List Deferred) (k:St σ->Option R) (r:R) (q:Prop) (next:Act->World->Prop):Prop:=
 ∀ st' a' w' Γ' Φ',k st'=some r->Stp C Γ H w Φ Γ' st'.hp w' Φ'->SI C I Γ' Φ' st' a'.tmps w'->a'.defers=ds->(q->∀ g,Γ'.St g->Γ.St g)->next a' w'
theorem Nxt.q {H:List Blk} {ds:List Deferred} {k:St σ->Option R} {q:Prop} {next:Act->World->Prop} (h:Nxt C I Γ Φ H w ds k r next):Af5 C I Γ Φ H w ds k r q next:=λst' a' w' Γ' Φ' h1 h2 h3 h4 _=>h st' a' w' Γ' Φ' h1 h2 h3 h4
theorem Y5 {ro:Option Nat} {n:Nat} {all:Array Oper} {E:Act->World->Prop} {D:Nat->Prop} {far:Nat->Bool} (A:Ask C I cl yh yv):∀ (rest:List Nat) {Γ:Ctx} {Φ:Nat->Prop} {st:St σ} {a:Act} {w:World} {k:St σ->Option R},(∀ i∈rest,i<all.size/\far i=false)->Γ.yv=yv->
  Y3 C cl yh all (rest.filterMap (all[·]?)) st k=some r->SI C I Γ Φ st a.tmps w->Af5 C I Γ Φ st.hp w a.defers k r (∀ j∈rest,C8 C all j<=1) E->F9 (C1 ro) n C.P all D far (C8 C all) E rest a w
 | [],Γ,Φ,st,a,w,k,hlt,hyv,h,S,hN=>hN st a w Γ Φ h (Stp.refl S.hr) S rfl (λ_ _ h=>h)
 | i::rest,Γ,Φ,st,a,w,k,hlt,hyv,h,S,hN=>by
  have hil:=(hlt i (by simp)).1
  have hfi:=(hlt i (by simp)).2
  obtain ⟨o,ho⟩:∃ o,all[i]? = some o:=⟨all[i],Array.getElem?_eq_getElem hil⟩
  have hlt':∀ j∈rest,j<all.size/\far j=false:=λj hj=>hlt j (by simp [hj])
  rw [List.filterMap_cons,ho] at h
  have hkd:C8 C all i=R8 C o.op:=by simp only [C8,ho]
  have run:∀ {st:St σ},Region.wanted o (yielded all a.tmps)=true->SI C I Γ Φ st a.tmps w->Af5 C I Γ Φ st.hp w a.defers k r (∀ j∈i::rest,C8 C all j<=1) E->opK C cl yh o st (λst'=>Y3 C cl yh all (rest.filterMap (all[·]?)) st' k)=some r->F9 (C1 ro) n C.P all D far (C8 C all) E (i::rest) a w:=fun {st} hwt S hN h=>by
   have quiet:R8 C o.op<=1->∃ V st',Y3 C cl yh all (rest.filterMap (all[·]?)) st' k=some r/\YQ (C1 ro) n C.P all D (qK (R8 C o.op) (far i)) w o V a/\SI C I Γ Φ st' (a.put o.dst V).tmps w/\Stp C Γ st.hp w Φ Γ st'.hp w Φ:=λhk1=>by
    rcases Wf C o.op with ⟨hk,hb⟩ | ⟨hk,hq⟩ | ⟨hk,_⟩ | hk
    ·obtain ⟨V,st',h1,h2,h3,h4⟩:=Bf2 (a:=a) hb h S
     refine ⟨V,st',h1,⟨λ_ _ _ _=>trivial,.inl ⟨hwt,λw' _=>?_⟩⟩,h3,h4.lift Φ⟩
     unfold Oper.quietAtIn
     rw [h2 w']
     exact ⟨rfl,rfl⟩
    ·rw [hk]
     simp only [Mz,Bool.or_eq_true] at hq
     rcases hq with hq | hq
     ·obtain ⟨V,st',h1,h2,h3,h4⟩:=Ir (a:=a) hq h S
      refine ⟨V,st',h1,⟨λ_ _ _ _=>trivial,.inl ⟨hwt,λw' hw'=>?_⟩⟩,h3,h4.lift Φ⟩
      unfold Oper.quietAtIn
      rw [h2 w' (hw'.1 (by rw [hfi];rfl)).1.1]
      exact ⟨rfl,rfl⟩
     ·obtain ⟨V,st',h1,h2,h3,h4⟩:=ZV (ro:=ro) (n:=n) (a:=a) A.hI A.hX hq h S
      exact ⟨V,st',h1,⟨λ_ _ _ _=>trivial,.inl ⟨hwt,λw' hw'=>h2 w' (hw'.1 (by rw [hfi];rfl))⟩⟩,h3,h4.lift Φ⟩
    all_goals omega
   simp only [F9]
   rw [hkd]
   refine ⟨λhk1=>?_,λhk2 w1 hw1=>?_⟩
   ·obtain ⟨V,st',h1,h2,h3,h4⟩:=quiet hk1
    exact ⟨o,V,ho,h2,Y5 A rest hlt' hyv h1 h3 λst2 a2 w2 Γ2 Φ2 k1 k2 k3 k4 k5=>hN st2 a2 w2 Γ2 Φ2 k1 (h4.trans k2) k3 (k4.trans (put_defers _ _ _)) λhq=>k5 λj hj=>hq j (by simp [hj])⟩
   ·obtain ⟨S1,hs1⟩:=S.like A.hI hw1
    unfold wpOpIn
    simp only [ho,hwt,if_true]
    rcases Wf C o.op with ⟨hk,_⟩ | ⟨hk,_⟩ | ⟨hk,hx⟩ | hk
    ·omega
    ·omega
    ·exact Bh9 A hyv hx h S1 λst' a' w' Γ' Φ' h1 h2 h3 h4 hl=>⟨λ_=>hl,λe=>(by rw [hfi] at e;cases e),Y5 A rest hlt' (h2.yv.trans hyv) h1 h3 λst2 a2 w2 Γ2 Φ2 k1 k2 k3 k4 _=>hN st2 a2 w2 Γ2 Φ2 k1 (hs1.trans (h2.trans k2)) k3 (k4.trans h4) λhq=>absurd (hq i (by simp)) (by rw [hkd];omega)⟩
    ·exact HS A hyv h S1 λst' a' w' Γ' Φ' h1 h2 h3 h4=>⟨λe=>by omega,λe=>(by rw [hfi] at e;cases e),Y5 A rest hlt' (h2.yv.trans hyv) h1 h3 λst2 a2 w2 Γ2 Φ2 k1 k2 k3 k4 _=>hN st2 a2 w2 Γ2 Φ2 k1 (hs1.trans (h2.trans k2)) k3 (k4.trans h4) λhq=>absurd (hq i (by simp)) (by rw [hkd];omega)⟩
  have skip:∀ {st:St σ},Region.wanted o (yielded all a.tmps)=false->SI C I Γ Φ st a.tmps w->Af5 C I Γ Φ st.hp w a.defers k r (∀ j∈i::rest,C8 C all j<=1) E->Y3 C cl yh all (rest.filterMap (all[·]?)) { st with sl:=G8 o.dst (.tup []) st.sl } k=some r->F9 (C1 ro) n C.P all D far (C8 C all) E (i::rest) a w:=fun {st} hwt S hN h=>by
   simp only [F9]
   have go:∀ {w1:World},E8 w w1->F9 (C1 ro) n C.P all D far (C8 C all) E rest (a.put o.dst undef) w1:=fun {w1} hw1=>by
    obtain ⟨S1,hs1⟩:=S.like A.hI hw1
    exact Y5 A rest (st:={ st with sl:=G8 o.dst (.tup []) st.sl }) hlt' hyv h (S1.put (o:=o) P6 (by simp [PV.nms,B3])) λst2 a2 w2 Γ2 Φ2 k1 k2 k3 k4 k5=>hN st2 a2 w2 Γ2 Φ2 k1 (hs1.trans k2) k3 (k4.trans (put_defers _ _ _)) λhq=>k5 λj hj=>hq j (by simp [hj])
   refine ⟨λhk1=>⟨o,undef,ho,⟨λ_ _ _ _=>trivial,.inr ⟨hwt,rfl⟩⟩,go (E8.refl w)⟩,λhk2 w1 hw1=>?_⟩
   unfold wpOpIn
   simp only [ho,hwt,Bool.false_eq_true,if_false]
   exact ⟨λ_ _=>trivial,λ_=>E8.refl w1,λ_=>(E8.refl w1).x,go hw1⟩
  simp only [Y3] at h
  split at h
  ·rename_i hg
   exact run (by simp [Region.wanted,hg]) S hN h
  ·rename_i j want hg
   split at h
   ·rename_i g hjg
    have hyd1:∀ b,a.tmps[g]? = some (.bool b)->yielded all a.tmps j=some b:=λb e=>by simp [yielded,hjg,e]
    have hyd0:(∀ b,a.tmps[g]?≠some (.bool b))->yielded all a.tmps j=none:=λhne=>by
     simp only [yielded,hjg,Option.bind_some]
    have hslot:∀ v,st.sl.getD g (.tup [])=v->∀ V,a.tmps[g]? = some V->VP Γ (A1 st.hp) w v V:=λv hv V hV=>by
     have hlt:g<st.sl.length:=by rw [<-S.sr.size];exact (Array.getElem?_eq_some_iff.1 hV).1
     obtain ⟨U,e1,e2⟩:=S.sr.slot g hlt
     grind
    split at h
    ·rename_i b hb
     have hlt:g<st.sl.length:=Decidable.byContradiction λhge=>by grind
     obtain ⟨U,e1,e2⟩:=S.sr.slot g hlt
     have hU:=(hslot _ hb U e1).inv_bool
     subst hU
     have hyd':yielded all a.tmps j=some b:=hyd1 b e1
     have S':SI C I Γ Φ { st with sl:=st.sl.set g (.s (.bool b)) } a.tmps w:=⟨S.hr,S.sr.set g (hslot _ hb) (by simp [PV.nms]),S.g,S.inv,S.dis⟩
     have hsp:(if (b==want)=true then opK C cl yh o { st with sl:=st.sl.set g (.s (.bool b)) } (λst'=>Y3 C cl yh all (rest.filterMap (all[·]?)) st' k) else Y3 C cl yh all (rest.filterMap (all[·]?)) { st with sl:=G8 o.dst (.tup []) (st.sl.set g (.s (.bool b))) } k)=some r:=by
      cases b<;>exact h
     by_cases hbw:b=want
     ·rw [if_pos (by simpa using hbw)] at hsp
      exact run (by simp [Region.wanted,hg,hyd',hbw]) S' hN hsp
     ·rw [if_neg (by simpa using hbw)] at hsp
      exact skip (by simp [Region.wanted,hg,hyd',hbw]) S' hN hsp
    ·rename_i hb
     have hyd':yielded all a.tmps j=none:=hyd0 λb hbb=>by
      obtain ⟨B,e,_⟩:=(hslot _ hb _ hbb).inv_tup
      cases e
     exact skip (by simp [Region.wanted,hg,hyd']) S hN h
    grind
   ·cases h
def Bh6:Op->Bool
 | .defer _=>false
 | _=>true
def L2:Option (List Nat × List Nat)->Nat->Bool
 | none,_=>false
 | some f,i=>okN f.1 i
def Ar8 (C:Cfg) (fd:Option (List Nat × List Nat)) (ops:Array Oper):Bool:=
 Region.noSelect ops&&(ops.toList.all (λo=>Bh6 o.op)&&(Nat.beq (Jk C ops.toList).length ops.size&&((Jk C ops.toList).all (λi=>Nat.ble (i+1) ops.size)&&FT .any ops (L2 fd) (C8 C ops) (Jk C ops.toList) (Array.replicate ops.size false))))
def Qi (o:Oper):List Nat:=o.op.operands.toList.filterMap λx=>match x with | .tmp t=>some t | _=>none
def Ck (ops:Array Oper) (i4:Nat) (mid:List Nat):Bool:=match ops[i4]? with
 | some o4=>(match o4.dst with | some _=>true | none=>false)&&mid.all λi=>match ops[i]? with
  | some o=>(match o.dst with | some d=>!(Qi o4).contains d && !(o4.dst==some d) | none=>true)
  | none=>false
 | none=>false
def UF (C:Cfg) (fd:Option (List Nat × List Nat)) (ops:Array Oper) (i4:Nat):Bool:=
 Region.noSelect ops&&(ops.toList.all (λo=>Bh6 o.op)&&(Nat.beq (M3 C ops++(Cl C ops i4++i4::Z3 C ops i4)).length ops.size&&((M3 C ops++(Cl C ops i4++i4::Z3 C ops i4)).all (λi=>Nat.ble (i+1) ops.size) &&
  (Ck ops i4 (Cl C ops i4)&&(Nat.beq (C8 C ops i4) 2&&Pe .any ops (L2 fd) (C8 C ops) (Ig .any ops (L2 fd) (C8 C ops) i4 (Z3 C ops i4) (Cl C ops i4)) (M3 C ops) (Array.replicate ops.size false))))))
def HJ:List Nat->Bool
 | []=>true
 | a::r=>!(okN r a)&&HJ r
def Ah6 (ops:Array Oper) (fl seq:List Nat):Bool:=fl.all λf=>match ops[f]? with
 | some og=>seq.all λi=>Nat.beq i f || (match ops[i]? with
  | some oi=>(match oi.dst with | some q=>!(Qi og).contains q && !(og.dst==some q) | none=>true)
  | none=>false)
 | none=>false
def UG (C:Cfg) (fd:Option (List Nat × List Nat)) (ops:Array Oper) (fl:List Nat):Bool:=
 Region.noSelect ops&&(ops.toList.all (λo=>Bh6 o.op)&&(Nat.beq (M3 C ops++J3 C ops).length ops.size&&((M3 C ops++J3 C ops).all (λi=>Nat.ble (i+1) ops.size) &&
  (Ah6 ops fl (J3 C ops)&&(fl.all (λf=>Nat.beq (C8 C ops f) 2)&&(HJ (J3 C ops)&&Pe .any ops (L2 fd) (C8 C ops) (Cy .any ops (L2 fd) (C8 C ops) fl (J3 C ops).length (J3 C ops)) (M3 C ops) (Array.replicate ops.size false)))))))
def UE (C:Cfg) (id:Nat) (ops:Array Oper):Bool:=match C.rowR id with
 | none=>match C.rowsR id with
  | none=>Ar8 C (C.farR id) ops
  | some fl=>UG C (C.farR id) ops fl
 | some i=>Nat.ble ops.size i || UF C (C.farR id) ops i
def M8 (C:Cfg) (rf:Bool):Code->Bool
 | .region id ops d=>!d || UE C id ops
 | .seq a b=>M8 C rf a&&M8 C rf b
 | .cond _ a b=>M8 C rf a&&M8 C rf b
 | .block _ a=>M8 C rf a
 | .loop a=>M8 C rf a
 | .scope a=>M8 C rf a
 | .rangeFunc _ _ a b=>M8 C rf a&&M8 C rf b
 | _=>true
def Am0 (C:Cfg) (c:Code):Bool:=M8 C true c
def DX (Γ:Ctx) (w:World) (fd:Option (List Nat × List Nat)):Nat->Prop:=λg=>w.heap.size<=g\/∃ f b,fd=some f/\okN f.2 b=true/\Γ.nm b=some g
theorem Jh {P:Program} {t g o:Nat} {d:TypeDesc} {i:TypeInfo} {w w2:World} {V:Value} (hd:P.underlying t=some d) (hi:P.info? t=some i) (hpos:0<i.size) (hh:w2.heap[g]? = w.heap[g]?) (hc:∀ j,j<i.size->∃ U,w.cell? ⟨g,o+j,none⟩=some U)
  (h:(loadVar t ⟨g,o,none⟩).run P w = .ok V w):(loadVar t ⟨g,o,none⟩).run P w2 = .ok V w2:=by
 let As:Nat->Value:=λj=>(w.cell? ⟨g,o+j,none⟩).getD undef
 have hAs:∀ j,j<i.size->w.cell? ⟨g,o+j,none⟩=some (As j):=λj hj=>by obtain ⟨U,e⟩:=hc j hj;simp [As,e]
 have run:∀ W:World,(∀ j,W.cell? ⟨g,j,none⟩=w.cell? ⟨g,j,none⟩)->(loadVar t ⟨g,o,none⟩).run P W = .ok (if Cc d=true then .agg ((List.range i.size).map As).toArray else As 0) W:=λW hW=>by
  by_cases ha:Cc d=true
  ·have hl':=run_loadCells_list (P:=P) W ⟨g,o,none⟩ ((List.range i.size).map As) (λj v hv=>by
    rw [F6,hW]
    simp only [List.getElem?_map,Option.map_eq_some_iff] at hv
    obtain ⟨a,e1,e2⟩:=hv
    obtain ⟨h1,h2⟩:=List.getElem?_eq_some_iff.1 e1
    simp at h1 h2
    subst h2 e2
    exact hAs j (by omega))
   simp only [List.length_map,List.length_range] at hl'
   simp [loadVar,Bj hd,ha,sizeOf,typeInfo,hi,hl']
  ·have h0:=hAs 0 hpos
   rw [Nat.add_zero] at h0
   simp only [Bool.not_eq_true] at ha
   simp [loadVar,Bj hd,ha,hW,h0]
 rw [run w λ_=>rfl] at h
 rw [run w2 λj=>by simp only [World.cell?,hh]]
 simp only [Result.ok.injEq,and_true] at h ⊢
 exact h
section
variable {ΓF : Ctx} {HF : List Blk} {wF : World} {ΦF : Nat -> Prop}
theorem YE {f:List Nat × List Nat} {b g:Nat} {cells:List PV} (hF:HR ΓF HF wF) (hs:Stp C ΓF HF wF ΦF Γ st.hp w Φ) (h1:Bg8 C (HF.getD b .dead)=true) (h2:okN f.2 b=false) (hg:Γ.nm b=some g):¬ DX ΓF wF (some f) g:=by
 have hb:b<HF.length:=Decidable.byContradiction λhge=>by
  rw [List.getD_eq_getElem?_getD,List.getElem?_eq_none (by omega)] at h1
  cases h1
 have hfx:Cb C (A1 HF b):=by
  rw [List.getD_eq_getElem?_getD,List.getElem?_eq_getElem hb,Option.getD_some] at h1
  unfold A1
  rw [List.getElem?_eq_getElem hb]
  cases he:HF[b] with
  | box c=>simp [Blk.shp,Cb]
  | arr v e' sz els=>rw [he] at h1;exact h1
  | _=>rw [he] at h1;cases h1
 have e:=(hs.keep b hb hfx).1
 rw [e] at hg
 rintro (hge | ⟨f',b',rfl',hb',hg'⟩)
 ·have:=(hF.lt b g hg).2.1;omega
 ·cases rfl'
  have:=hF.inj b b' g hg hg'
  subst this
  rw [h2] at hb';cases hb'
theorem An5 {f:List Nat × List Nat} {p:Bool} {t:Nat} {x:Operand} {V:Value} {w2:World} {k:St σ->Option R} (hop:o.op = .load t x) (hok:Rb C f p HF st.hp st.sl o=true) (hst:p=true->∀ g,Γ.St g->ΓF.St g) (h:opK C cl yh o st k=some r) (S:SI C I Γ Φ st a.tmps w) (hF:HR ΓF HF wF) (hs:Stp C ΓF HF wF ΦF Γ st.hp w Φ)
  (hl:Ei (DX ΓF wF (some f)) w w2) (hr:(execOp a.eval o).run C.P w = .ok (.value V) w):(execOp a.eval o).run C.P w2 = .ok (.value V) w2:=by
 unfold Rb at hok
 rw [hop] at hok
 simp only at hok
 split at hok
 ·rename_i b i off hx
  simp only [Bool.and_eq_true,Bool.not_eq_true'] at hok
  obtain ⟨_,h1,h2,h3⟩:=hok
  have hxA:=(S.opnd x).1
  rw [hx] at hxA
  obtain ⟨g,q,hg,hA,hti,hcell⟩:∃ g q,Γ.nm b=some g/\a.eval x = .pointer (some ⟨g,q,none⟩)/\(C.ti t).ok=true/\∀ j,j<(C.ti t).ks.length->∃ U,w.cell? ⟨g,q+j,none⟩=some U:=by
   rw [List.getD_eq_getElem?_getD] at h2
   cases hb:st.hp[b]? with
   | none=>rw [hb] at h2;cases h2
   | some y=>
    rw [hb] at h2
    cases y with
    | box cells=>
     obtain ⟨g,hg,hc,_⟩:=S.hr.box (C:=C) hb
     simp only [opK,hop,hx,Jg,hb] at h
     split at h
     ·rename_i hi0
      subst hi0
      obtain ⟨h4,_⟩:=A7 h
      have hlt:=HP h4
      refine ⟨g,off,hg,?_,by simp only [okP,Bool.and_eq_true] at h4;exact h4.1,λj hj=>?_⟩
      ·generalize a.eval x=A at hxA
       cases hxA with
       | ptrA _ _ _ g' v e sz n h' hg'=>simp [A1,hb,Blk.shp] at h'
       | ptrB _ _ g' h' hg'=>rw [hg] at hg';cases hg';rfl
      ·obtain ⟨U,e,_⟩:=hc (off+j) (hlt j hj)
       exact ⟨U,by simpa using e⟩
     ·cases h
    | arr v e sz els=>
     simp only [opK,hop,hx,Jg,hb] at h
     have fin:∀ q,(¬ (v=true/\els=[]))->q+(C.ti t).ks.length<=els.length*sz->(∀ g,Γ.nm b=some g->a.eval x = .pointer (some ⟨g,q,none⟩))->(C.ti t).ok=true->∃ g q,Γ.nm b=some g/\a.eval x = .pointer (some ⟨g,q,none⟩)/\(C.ti t).ok=true/\∀ j,j<(C.ti t).ks.length->∃ U,w.cell? ⟨g,q+j,none⟩=some U:=λq hne hq hA hti=>by
      obtain ⟨g,cur,hg,hh,hsz,_⟩:=S.hr.arr' hb hne
      refine ⟨g,q,hg,hA g hg,hti,λj hj=>?_⟩
      have hlt:q+j<cur.size:=by omega
      exact ⟨cur[q+j],by simp [World.cell?,hh,hlt]⟩
     have hA:∀ g,Γ.nm b=some g->a.eval x = .pointer (some ⟨g,i*sz+off,none⟩):=λg hg=>by
      generalize a.eval x=A at hxA
      cases hxA with
      | ptrA _ _ _ g' v' e' sz' n h' hg'=>
       obtain ⟨rfl,rfl,rfl,rfl⟩:=G5 hb h'
       rw [hg] at hg';cases hg';rfl
      | ptrB _ _ g' h' hg'=>simp [A1,hb,Blk.shp] at h'
     split at h
     ·rename_i hle
      obtain ⟨h4,_⟩:=A7 h
      simp only [Bool.and_eq_true,decide_eq_true_eq] at h4
      refine fin _ (by rintro ⟨_,rfl⟩;simp at h4) ?_ hA (by have:=h4.2;simp only [okS,Bool.and_eq_true] at this;exact this.1.1)
      have:(i+1)*sz<=els.length*sz:=Nat.mul_le_mul_right sz h4.1
      rw [Nat.add_mul,Nat.one_mul] at this
      omega
     ·split at h
      ·rename_i hi0
       obtain ⟨rfl,rfl⟩:=hi0
       obtain ⟨h4,_⟩:=A7 h
       simp only [Bool.and_eq_true,decide_eq_true_eq] at h4
       have hok':(C.ti t).ok=true:=by have:=h4.2;simp only [okS,Bool.and_eq_true] at this;exact this.1.1
       obtain ⟨_,_,_,_,_,_,hsz,_,hpos,_,_,hlen⟩:=W4 hok'
       refine fin _ (by rintro ⟨_,rfl⟩;have:=h4.1;rw [List.length_nil,Nat.zero_mul] at this;omega) (by omega) hA hok'
      ·cases h
    | _=>cases h2
  have hnd:=YE (f:=f) (cells:=[]) hF hs h1 h3 hg
  have hh:w2.heap[g]? = w.heap[g]?:=hl.1.1 g (S.hr.lt b g hg).2.1 hnd
  simp only [execOp,hop,hA,Instr.loadAt,Instr.sureAddr,Sem.run_bind,Sem.run_pure,Result.andThen] at hr ⊢
  cases hv:(loadVar t ⟨g,q,none⟩).run C.P w with
  | halt e w'=>rw [hv] at hr;simp at hr
  | ok V' w'=>
   rw [hv] at hr
   simp only [Result.ok.injEq,Next.value.injEq] at hr
   obtain ⟨rfl,rfl⟩:=hr
   obtain ⟨i,d,z,hi,hd,_,hsz,_,hpos,_,_,hlen⟩:=W4 hti
   rw [Jh hd hi hpos hh (λj hj=>hcell j (by omega)) hv]
 ·rename_i els i off hx
  simp only [Bool.and_eq_true] at hok
  have hxA:=(S.opnd x).1
  rw [hx] at hxA
  have hs':=hxA.inv_s
  simp only [opK,hop,hx,Jg] at h
  obtain ⟨h4,_⟩:=A7 h
  simp only [okS,Bool.and_eq_true,decide_eq_true_eq] at h4
  obtain ⟨hi,⟨hti,hle⟩,_⟩:=h4
  obtain ⟨g,q,hA,hgs,hcell⟩:∃ g q,a.eval x = .pointer (some ⟨g,q,none⟩)/\Γ.St g/\∀ j,j<(C.ti t).ks.length->∃ U,w.cell? ⟨g,q+j,none⟩=some U:=by
   generalize a.eval x=A at hs'
   cases hs' with
   | sp _ _ _ g off0 sz Vs hg hl hc hv=>
    refine ⟨g,_,rfl,hg,λj hj=>⟨Vs i (off+j),?_⟩⟩
    have hlen:(els.getD i []).length=(els[i]).length:=by rw [List.getD_eq_getElem?_getD,List.getElem?_eq_getElem hi,Option.getD_some]
    have:=hc i hi (off+j) (by omega)
    rw [Nat.add_assoc]
    exact this
  have hgF:=hst hok.2 g hgs
  have hnd:¬ DX ΓF wF (some f) g:=by
   rintro (hge | ⟨f',b',_,_,hg'⟩)
   ·have:=hF.stlt g hgF;omega
   ·exact (hF.lt b' g hg').2.2 hgF
  have hh:w2.heap[g]? = w.heap[g]?:=hl.1.1 g (S.hr.stlt g hgs) hnd
  simp only [execOp,hop,hA,Instr.loadAt,Instr.sureAddr,Sem.run_bind,Sem.run_pure,Result.andThen] at hr ⊢
  cases hv:(loadVar t ⟨g,q,none⟩).run C.P w with
  | halt e w'=>rw [hv] at hr;simp at hr
  | ok V' w'=>
   rw [hv] at hr
   simp only [Result.ok.injEq,Next.value.injEq] at hr
   obtain ⟨rfl,rfl⟩:=hr
   obtain ⟨i,d,z,hi,hd,_,hsz,_,hpos,_,_,hlen⟩:=W4 hti
   rw [Jh hd hi hpos hh (λj hj=>hcell j (by omega)) hv]
 ·cases hok
theorem YF {f:List Nat × List Nat} {p:Bool} {t:Nat} {x y:Operand} {k:St σ->Option R} (hop:o.op = .store t x y) (hok:Rb C f p HF st.hp st.sl o=true) (h:opK C cl yh o st k=some r) (S:SI C I Γ Φ st a.tmps w) (hs:Stp C ΓF HF wF ΦF Γ st.hp w Φ) :
  ∃ w',(execOp a.eval o).run C.P w = .ok .skip w'/\Ei (DX ΓF wF (some f)) w w':=by
 unfold Rb at hok
 rw [hop] at hok
 simp only at hok
 split at hok
 ·rename_i b off hx
  simp only [Bool.and_eq_true,Bool.or_eq_true] at hok
  obtain ⟨_,h2,h3⟩:=hok
  obtain ⟨cells,hb⟩:∃ cells,st.hp[b]? = some (.box cells):=by
   rw [List.getD_eq_getElem?_getD] at h2
   cases he:st.hp[b]? with
   | none=>rw [he] at h2;cases h2
   | some y=>
    rw [he] at h2
    cases y with
    | box c=>exact ⟨c,rfl⟩
    | _=>cases h2
  obtain ⟨g,cur,e,hg,hh,hcur,_,_⟩:=S.hr.box' hb
  have hA:a.eval x = .pointer (some ⟨g,off,none⟩):=by
   have ha:=(S.opnd x).1
   rw [hx] at ha
   generalize a.eval x=A at ha
   cases ha with
   | ptrA _ _ _ g' v e sz n h' hg'=>simp [A1,hb,Blk.shp] at h'
   | ptrB _ _ g' h' hg'=>rw [hg] at hg';cases hg';rfl
  simp only [opK,hop,hx,Kv,hb,if_true] at h
  split at h
  ·rename_i hc
   obtain ⟨hti,hlen,hone⟩:=hc
   obtain ⟨h4,_⟩:=A7 h
   simp only [decide_eq_true_eq] at h4
   obtain ⟨i0,hi,hsz,hpos⟩:=F1 hti
   have hv:=(S.opnd y).1
   have hne:(opnd C st.sl y).cells≠[]:=by intro e;rw [e] at hlen;simp at hlen;omega
   have hvc:=hv.cells' hne
   have hcl:(opnd C st.sl y).cells.length=(a.eval y).cells.toList.length:=by simpa using hvc.1.symm
   have hcr:∀ j (h:j<(opnd C st.sl y).cells.length),∃ U,(a.eval y).cells.toList[j]? = some U/\VP Γ (A1 st.hp) w ((opnd C st.sl y).cells[j]) U:=λj hj=>by
    obtain ⟨U,e,k⟩:=hvc.2 j hj
    grind
   have h1c:=VU hcl hone hcr
   have hVs:(a.eval y).cells.size=i0.size:=by rw [hvc.1,hlen,hsz]
   obtain ⟨w',r1,r2,r3,r4,r5,r6,r7,r8⟩:=F4 (P:=C.P) (o:=off) hh (vs:=(a.eval y).cells.toList) (by rw [<-hcl,hlen,hcur];exact h4) h1c
   have hst:=Az hi hVs r1
   refine ⟨w',?_,⟨λg' hg' hnd=>r3 g' λe=>hnd ?_,by omega⟩,r5,r6,r7⟩
   ·simp only [execOp,hop,hA]
    simp only [Sem.run_bind] at hst ⊢
    cases hq:(Instr.storeAt t (.pointer (some ⟨g,off,none⟩)) (a.eval y)).run C.P w with
    | halt e w'=>rw [hq] at hst;simp [Result.andThen] at hst
    | ok u w2=>
     rw [hq] at hst
     simp only [Result.andThen,Sem.run_pure,Result.ok.injEq,true_and] at hst
     rw [hst]
     rfl
   ·subst e
    rcases hs.own b _ hg with ⟨hb1,hb2⟩ | hge
    ·rcases h3 with h3 | h3
     ·exact .inr ⟨f,b,rfl,h3,hb2⟩
     ·have:=Gu h3;omega
    ·exact .inl hge
  ·cases h
 ·cases hok
def unb:Blk->Blk | .box _=>.dead | .mp _=>.dead | b=>b
def nob (H:List Blk):List Blk:=H.map unb
theorem Iq (H:List Blk) (b:Nat):(nob H)[b]? = (H[b]?).map unb:=List.getElem?_map ..
theorem YB (H:List Blk):∀ v:PV,Aj (nob H) v=Aj H v
 | .fl b=>by simp only [Aj,Iq];cases H[b]? with | none=>rfl | some x=>cases x<;>rfl
 | .vw b i n=>by simp only [Aj,Iq];cases H[b]? with | none=>rfl | some x=>cases x<;>rfl
 | .s v=>by cases v<;>rfl
 | .nsl | .ptr _ _ _ | .fnr _ _ _ | .it _ | .yd | .agg _ | .tup _ | .bad=>rfl
theorem Ac5 (n:Nat) (H:List Blk):∀ v:PV,V8 n (nob H) v=V8 n H v
 | .fl b=>by simp only [V8,Iq];cases H[b]? with | none=>rfl | some x=>cases x<;>rfl
 | .vw b i m=>by simp only [V8,Iq];cases H[b]? with | none=>rfl | some x=>cases x<;>rfl
 | .s v=>by cases v<;>rfl
 | .nsl | .ptr _ _ _ | .fnr _ _ _ | .it _ | .yd | .agg _ | .tup _ | .bad=>rfl
theorem SQ (H:List Blk) (v:PV):Hk (nob H) v=Hk H v:=by
 cases v with
 | s x=>cases x<;>rfl
 | _=>unfold Hk;exact YB H _
def Ld (H:List Blk) (b:Nat):Bool:=GM (H.getD b .dead)
theorem Vd {H:List Blk} {b:Nat} {v:Bool} {e sz:Nat} {els:List (List SV)} (h:H[b]? = some (.arr v e sz els)):Ld H b=false:=by simp [Ld,h,GM]
theorem Ac4 {n:Nat} {H:List Blk} {v:PV} (h:V8 n H v=true):∀ c∈v.nms,Ld H c=false:=by
 intro c hc
 cases v with
 | fl b=>
  obtain rfl:c=b:=by simpa [PV.nms] using hc
  simp only [V8] at h
  split at h
  ·rename_i hb;exact Vd hb
  ·cases h
 | vw b i m=>
  obtain rfl:c=b:=by simpa [PV.nms] using hc
  simp only [V8] at h
  split at h
  ·rename_i hb;exact Vd hb
  ·cases h
 | s x=>simp [PV.nms] at hc
 | nsl=>simp [PV.nms] at hc
 | _=>simp [V8] at h
theorem JE {H:List Blk} {t:Nat} {sl:List PV} {s x:PV} {k:PV->List PV->List Blk->Option R} (h:Aq C t sl s x H k=some r) :
  (∃ u,Aq C t sl s x (nob H) (λ_ _ _=>some ())=some u)/\(∀ c∈s.nms,Ld H c=false)/\∀ c∈x.nms,Ld H c=false:=by
 unfold Aq at h ⊢
 simp only [Ac5,SQ,Iq]
 split at h
 ·split at h
  ·rename_i hok
   rw [if_pos hok]
   simp only [Bool.and_eq_true] at hok
   have hx:=Ac4 hok.2
   split at h
   ·rename_i news hn
    split at h
    ·obtain ⟨h1,_⟩:=A7 h
     exact ⟨⟨(),by simp only [need,h1];rfl⟩,by simp [PV.nms],hx⟩
    ·split at h
     ·rename_i hkk
      obtain ⟨h1,_⟩:=A7 h
      exact ⟨⟨(),by simp only [need,h1,hkk,if_true];rfl⟩,by simp [PV.nms],hx⟩
     ·cases h
    ·rename_i b
     split at h
     ·rename_i v e' sz els hb
      split at h
      ·rename_i hc
       obtain ⟨h1,_⟩:=A7 h
       refine ⟨⟨(),by simp only [hb,Option.map_some,unb,if_pos hc,need,h1];rfl⟩,λc hc=>?_,hx⟩
       obtain rfl:c=b:=by simpa [PV.nms] using hc
       exact Vd hb
      ·cases h
     ·cases h
    ·cases h
   ·cases h
  ·cases h
 ·cases h
def ZU (Γ:Ctx) (H:List Blk):Ctx:={ Γ with nm:=λb=>if Ld H b then none else Γ.nm b }
theorem Mo (Γ:Ctx) (H:List Blk) (w:World):P7 Γ (A1 H) w (ZU Γ H) (A1 (nob H)) w (λb=>Ld H b=false):=
 ⟨λ_ _=>rfl,λ_ h=>h,λb hb=>by simp only [ZU];rw [hb];rfl,λb hb=>by
  simp only [A1,Iq]
  simp only [Ld,List.getD_eq_getElem?_getD] at hb
  cases he:H[b]? with
  | none=>rfl
  | some x=>rw [he] at hb;cases x with
   | box c=>cases hb
   | mp c=>cases hb
   | _=>rfl,λ_ _ _ _=>rfl,rfl⟩
theorem Be3 {Γ:Ctx} {w:World} {H:List Blk} (hH:HR Γ H w):HR (ZU Γ H) (nob H) w:=by
 have hnm:∀ b g,(ZU Γ H).nm b=some g->Ld H b=false/\Γ.nm b=some g:=λb g h=>by
  simp only [ZU] at h
  split at h
  ·cases h
  ·rename_i hn;exact ⟨by simpa using hn,h⟩
 refine ⟨λb b' g h1 h2=>hH.inj b b' g (hnm b g h1).2 (hnm b' g h2).2,λb g h=>by have:=hH.lt b g (hnm b g h).2;exact ⟨by simpa [nob] using this.1,this.2⟩,hH.stlt,λb hb c hc=>?_,λb hb=>?_⟩
 ·simp only [nob,List.getElem_map] at hc
  cases hx:H[b]'(by simpa [nob] using hb)<;>rw [hx] at hc<;>simp [unb,Blk.nms] at hc
 ·have hb':b<H.length:=by simpa [nob] using hb
  have:=hH.blk b hb'
  simp only [nob,List.getElem_map]
  cases hx:H[b] with
  | box c=>trivial
  | mp c=>trivial
  | _=>
   rw [hx] at this
   have hn:Ld H b=false:=by simp [Ld,hb',hx,GM]
   exact this.mono (Mo Γ H w) ((Mo Γ H w).nm b hn) (λ_ _=>rfl) (λc hc=>by simp [Blk.nms] at hc)
theorem QY {f:List Nat × List Nat} {c:Call} {k:St σ->Option R} (hop:o.op = .call c) (hcb:c.callee = .builtin .append) (hd:∀ b,b<HF.length->okN f.2 b=true\/Ld st.hp b=true) (h:opK C cl yh o st k=some r) (S:SI C I Γ Φ st a.tmps w) (hF:HR ΓF HF wF) (hs:Stp C ΓF HF wF ΦF Γ st.hp w Φ) :
  ∃ V w',(execOp a.eval o).run C.P w = .ok (.value V) w'/\Ei (DX ΓF wF (some f)) w w':=by
 have key:∀ (ts:List Nat) (args:List PV),c.argTypes.toList=ts->c.args.toList.map (opnd C st.sl)=args->Z6 C .append ts args st (λv st'=>k { st' with sl:=G8 o.dst v st'.sl })=some r->
   ∃ V w',(execOp a.eval o).run C.P w = .ok (.value V) w'/\Ei (DX ΓF wF (some f)) w w':=by
  intro ts args hts hargs h
  unfold Z6 at h
  dsimp only at h
  split at h
  ·contradiction
  ·rename_i t u s x _
   obtain ⟨s0,x0,hx0,rfl,rfl⟩:=JF hargs
   have hts':c.argTypes=[t,u].toArray:=by rw [<-hts]
   split at h
   ·rename_i hu
    obtain ⟨⟨u1,h1⟩,n1,n2⟩:=JE h
    obtain ⟨v,sl',H',hk,hv⟩:=Je (ty:=o.type) (tmps:=a.tmps) (Be3 S.hr) hu h1 ((S.opnd s0).1.mono (Mo Γ st.hp w) n1) ((S.opnd x0).1.mono (Mo Γ st.hp w) n2)
    obtain ⟨V,w',Γ',hrun,hst,_⟩:=hv
    refine ⟨V,w',?_,⟨⟨λg hg hnd=>hst.frame g hg (λb hb=>hnd ?_) (λx=>x),hst.size⟩,hst.os,hst.tape,hst.output⟩⟩
    ·obtain ⟨cs,he⟩:=K4 (ρ:=a.eval) hop hcb
     rw [he,hx0,hts']
     simp [builtin,hrun]
    ·have hb0:Ld st.hp b=false/\Γ.nm b=some g:=by
      simp only [ZU] at hb
      split at hb
      ·cases hb
      ·rename_i hn;exact ⟨by simpa using hn,hb⟩
     rcases hs.own b g hb0.2 with ⟨hb1,hb2⟩ | hge
     ·refine .inr ⟨f,b,rfl,?_,hb2⟩
      rcases hd b hb1 with q | q
      ·exact q
      ·rw [hb0.1] at q;cases q
     ·exact .inl hge
   ·cases h
  all_goals contradiction
 simp only [opK,hop,hcb] at h
 exact key _ _ rfl rfl h
theorem Wy {ro:Option Nat} {n:Nat} {all:Array Oper} {E:Act->World->Prop} {f:List Nat × List Nat} (A:Ask C I cl yh yv) (hF:HR ΓF HF wF):∀ (rest:List Nat) {p:Bool} {Γ:Ctx} {Φ:Nat->Prop} {st:St σ} {a:Act} {w:World} {k:St σ->Option R},(∀ i∈rest,i<all.size)->Γ.yv=yv->(p=true->∀ g,Γ.St g->ΓF.St g)->
  Mt C cl yh all f HF p rest st k=some r->SI C I Γ Φ st a.tmps w->Stp C ΓF HF wF ΦF Γ st.hp w Φ->Nxt C I Γ Φ st.hp w a.defers k r E->F9 (C1 ro) n C.P all (DX ΓF wF (some f)) (L2 (some f)) (C8 C all) E rest a w
 | [],p,Γ,Φ,st,a,w,k,hlt,hyv,hst,h,S,hs,hN=>hN st a w Γ Φ h (Stp.refl S.hr) S rfl
 | i::rest,p,Γ,Φ,st,a,w,k,hlt,hyv,hst,h,S,hs,hN=>by
  have hil:=hlt i (by simp)
  obtain ⟨o,ho⟩:∃ o,all[i]? = some o:=⟨all[i],Array.getElem?_eq_getElem hil⟩
  simp only [Mt] at h
  obtain ⟨hc,h⟩:=A7 h
  have next:Af5 C I Γ Φ st.hp w a.defers (λst'=>Mt C cl yh all f HF (p&&Nat.ble (C8 C all i) 1) rest st' k) r (∀ j∈[i],C8 C all j<=1) (F9 (C1 ro) n C.P all (DX ΓF wF (some f)) (L2 (some f)) (C8 C all) E rest):=λst' a' w' Γ' Φ' k1 k2 k3 k4 k5=>
   Wy A hF rest (λj hj=>hlt j (by simp [hj])) (k2.yv.trans hyv) (λhp g hg=>by
    simp only [Bool.and_eq_true] at hp
    exact hst hp.1 g (k5 (λj hj=>by simp at hj;subst hj;exact Nat.le_of_ble_eq_true hp.2) g hg)) k1 k3 (hs.trans k2) λst2 a2 w2 Γ2 Φ2 q1 q2 q3 q4=>hN st2 a2 w2 Γ2 Φ2 q1 (k2.trans q2) q3 (q4.trans k4)
  cases hfi:L2 (some f) i with
  | false=>
   have:=Y5 (ro:=ro) (n:=n) (D:=DX ΓF wF (some f)) (far:=L2 (some f)) A [i] (λj hj=>by simp at hj;subst hj;exact ⟨hil,hfi⟩) hyv h S next
   simp only [F9] at this ⊢
   exact this
  | true=>
   have hfo:Rb C f p HF st.hp st.sl o=true:=by
    have e:okN f.1 i=true:=hfi
    rw [ho] at hc
    simpa [e] using hc
   have hg:o.guard=none:=by
    unfold Rb at hfo
    split at hfo
    ·split at hfo
     ·simp only [Bool.and_eq_true,Option.isNone_iff_eq_none] at hfo;exact hfo.1
     ·simp only [Bool.and_eq_true,Option.isNone_iff_eq_none] at hfo;exact hfo.1
     ·cases hfo
    ·split at hfo
     ·simp only [Bool.and_eq_true,Option.isNone_iff_eq_none] at hfo;exact hfo.1
     ·cases hfo
    ·split at hfo
     ·simp only [Bool.and_eq_true,Option.isNone_iff_eq_none] at hfo;exact hfo.1
     ·cases hfo
    ·cases hfo
   have hwt:Region.wanted o (yielded all a.tmps)=true:=by simp [Region.wanted,hg]
   have h:opK C cl yh o st (λst'=>Mt C cl yh all f HF (p&&Nat.ble (C8 C all i) 1) rest st' k)=some r:=by
    rw [List.filterMap_cons,ho] at h
    simp only [List.filterMap_nil,Y3,hg] at h
    exact h
   simp only [F9,hfi]
   have hkd:C8 C all i=R8 C o.op:=by simp only [C8,ho]
   rw [hkd]
   have hcase:(∃ t x,o.op = .load t x)\/(∃ t x y,o.op = .store t x y)\/∃ c,o.op = .call c/\c.callee = .builtin .append/\∀ b,b<HF.length->okN f.2 b=true\/Ld st.hp b=true:=by
    unfold Rb at hfo
    split at hfo
    ·rename_i t x e;exact .inl ⟨t,x,e⟩
    ·rename_i t x y e;exact .inr (.inl ⟨t,x,y,e⟩)
    ·rename_i c e
     split at hfo
     ·rename_i hcb
      simp only [Bool.and_eq_true,List.all_eq_true,List.mem_range,Bool.or_eq_true] at hfo
      exact .inr (.inr ⟨c,e,hcb,hfo.2⟩)
     ·cases hfo
    ·cases hfo
   rcases hcase with ⟨t,x,hop⟩ | ⟨t,x,y,hop⟩ | ⟨c,hop,hcb,hd⟩
   ·have hk:R8 C o.op=1:=by rw [hop];rfl
    rw [hk]
    refine ⟨λ_=>?_,λhk2=>by omega⟩
    obtain ⟨V,st',h1,h2,h3,h4⟩:=Ir (a:=a) (show F2 C o.op=true by rw [hop];rfl) h S
    refine ⟨o,V,ho,⟨λ_ _ _ _=>trivial,.inl ⟨hwt,λw' hw'=>?_⟩⟩,next st' (a.put o.dst V) w Γ Φ h1 (h4.lift Φ) h3 (put_defers _ _ _) (λ_ _ h=>h)⟩
    unfold Oper.quietAtIn
    rw [An5 hop hfo hst h S hF hs (hw'.2 rfl) (h2 w (Ext.refl w))]
    exact ⟨rfl,rfl⟩
   ·have hk:R8 C o.op=3:=by rw [hop];rfl
    rw [hk]
    refine ⟨λhk2=>by omega,λ_ w1 hw1=>?_⟩
    obtain ⟨S1,hs1⟩:=S.like A.hI hw1
    obtain ⟨w2,hr,hx⟩:=YF hop hfo h S1 (hs.trans hs1)
    have hw:=HS (ro:=ro) (n:=n) (Q:=QF) A hyv h S1 λst' a' w' Γ' Φ' q1 q2 q3 q4=>next st' a' w' Γ' Φ' q1 (hs1.trans q2) q3 q4 λhq=>absurd (hq i (by simp)) (by rw [hkd,hk];omega)
    unfold wpOpIn
    simp only [ho,hwt,if_true]
    unfold Oper.wpIn at hw ⊢
    refine ⟨hw.1,?_⟩
    have h5:=hw.2
    rw [Oper.semAt_eq _ _ _ (λc e=>by rw [hop] at e;cases e),hr] at h5 ⊢
    simp only [Oper.uponIn] at h5 ⊢
    exact ⟨λe=>by omega,λ_=>hx,h5⟩
   ·have hk:R8 C o.op=3:=by rw [hop];simp [R8,Mz,F2,Ey,KF,hcb]
    rw [hk]
    refine ⟨λhk2=>by omega,λ_ w1 hw1=>?_⟩
    obtain ⟨S1,hs1⟩:=S.like A.hI hw1
    obtain ⟨V,w2,hr,hx⟩:=QY hop hcb hd h S1 hF (hs.trans hs1)
    have hw:=HS (ro:=ro) (n:=n) (Q:=QF) A hyv h S1 λst' a' w' Γ' Φ' q1 q2 q3 q4=>next st' a' w' Γ' Φ' q1 (hs1.trans q2) q3 q4 λhq=>absurd (hq i (by simp)) (by rw [hkd,hk];omega)
    unfold wpOpIn
    simp only [ho,hwt,if_true]
    unfold Oper.wpIn at hw ⊢
    refine ⟨hw.1,?_⟩
    have h5:=hw.2
    rw [Oper.semAt_eq _ _ _ (λc e=>by rw [hop] at e;cases e),hr] at h5 ⊢
    simp only [Oper.uponIn] at h5 ⊢
    exact ⟨λe=>by omega,λ_=>hx,h5⟩
theorem R9 {ro:Option Nat} {n:Nat} {all:Array Oper} {E:Act->World->Prop} {fd:Option (List Nat × List Nat)} (A:Ask C I cl yh yv) (hF:HR ΓF HF wF) (rest:List Nat) {p:Bool} {Γ:Ctx} {Φ:Nat->Prop} {st:St σ} {a:Act} {w:World} {k:St σ->Option R} (hlt:∀ i∈rest,i<all.size) (hyv:Γ.yv=yv) (hst:p=true->∀ g,Γ.St g->ΓF.St g)
  (h:Am C cl yh all fd HF p rest st k=some r) (S:SI C I Γ Φ st a.tmps w) (hs:Stp C ΓF HF wF ΦF Γ st.hp w Φ) (hN:Nxt C I Γ Φ st.hp w a.defers k r E):F9 (C1 ro) n C.P all (DX ΓF wF fd) (L2 fd) (C8 C all) E rest a w:=by
 cases fd with
 | none=>exact Y5 A rest (λi hi=>⟨hlt i hi,rfl⟩) hyv h S hN.q
 | some f=>exact Wy A hF rest hlt hyv hst h S hs hN
end
theorem Ab6 {ro:Option Nat} {n id:Nat} {ops:Array Oper} {Q:Exit->Act->World->Prop} {k:St σ->Option R} (A:Ask C I cl yh yv) (hm:C.P.follows .mixedOrders=true) {fd:Option (List Nat × List Nat)} (hok:Ar8 C fd ops=true) (hyv:Γ.yv=yv) (h:Am C cl yh ops fd st.hp true (Jk C ops.toList) st k=some r) (S:SI C I Γ Φ st a.tmps w)
  (hN:Nxt C I Γ Φ st.hp w a.defers k r (λa' w'=>Q .normal a' w')):(Code.region id ops true).wpIn (C1 ro) n C.P Q a w:=by
 simp only [Ar8,Bool.and_eq_true] at hok
 obtain ⟨h1,h2,h3,h4,h5⟩:=hok
 rw [List.all_eq_true] at h2 h4
 refine Nr (D:=DX Γ w fd) (far:=L2 fd) (kind:=C8 C ops) (ord:=Jk C ops.toList) hm h1 (λj o c ho e=>?_) (λj hj=>?_) (Nat.eq_of_beq_eq_true h3) h5 (R9 A S.hr _ (λi hi=>Gu (h4 i hi)) hyv (λ_ _ h=>h) h S (Stp.refl S.hr) λst' a' w' Γ' Φ' k1 k2 k3 k4 w1 hw1=>?_)
 case refine_3=>
  obtain ⟨S1,hs1⟩:=k3.like A.hI hw1
  exact hN st' a' w1 Γ' Φ' k1 (k2.trans hs1) S1 k4
 ·have:=h2 o (by simpa using Array.mem_of_getElem? ho)
  rw [e] at this
  cases this
 ·simp only [C8,Array.getElem?_eq_none hj]
  exact Nat.le_refl _
def Bas (Sb:Nat->Prop) (wb:World) (St:Nat->Prop) (w:World):Prop:=∀ q,Sb q->St q/\w.heap[q]? = wb.heap[q]?
def Trn.B (C:Cfg) (Sb:Nat->Prop) (wb:World) (V:Value) (x:Obj) (g:Nat):Trn->Prop
 | .row v=>∀ (St:Nat->Prop) (w1:World),Bas Sb wb St w1->St g->w1.heap[g]? = some x->VS St w1 v V
 | .var e=>(C.ti e).ok=true/\(∀ n el,C.sh e≠.array n el)/\V = .pointer (some ⟨g,0,none⟩)/\∃ z:Value,x = .cells z.cells e/\∀ (Γ:Ctx) sh w,CR Γ sh w ((C.ti e).ks.map J8) z.cells
def Kz (C:Cfg) (Sb:Nat->Prop) (wb:World) (o:Oper) (ev:Operand->Value) (t:Trn):Prop:=∀ w:World,∃ V x,(execOp ev o).run C.P w = .ok (.value V) (w.alloc x)/\t.B C Sb wb V x w.heap.size
def MK (op:Op):Prop:=(∃ t len ps,op = .buildSlice t len ps)\/∃ e,op = .alloc e
theorem Xl {k:Trn->Option R} (S:SI C I Γ Φ st a.tmps w) (h:MJ C o st.sl k=some r):o.guard=none/\MK o.op/\∃ t,k t=some r/\Kz C Γ.St w o a.eval t:=by
 unfold MJ at h
 split at h
 ·rename_i e hg hop
  refine ⟨hg,.inr ⟨_,hop⟩,?_⟩
  split at h
  ·cases h
  ·rename_i hsh
   obtain ⟨hok,h⟩:=A7 h
   refine ⟨_,h,λw1=>?_⟩
   obtain ⟨z,h1,h2,_⟩:=Zn (Γ:=Γ) (ev:=a.eval) (w:=w1) hok hop
   exact ⟨_,_,h1,hok,hsh,rfl,z,rfl,h2⟩
 ·rename_i t len parts hg hop
  refine ⟨hg,.inl ⟨_,_,_,hop⟩,?_⟩
  split at h
  ·rename_i e hsh
   split at h
   ·rename_i hok
    simp only [Bool.and_eq_true,decide_eq_true_eq] at hok
    obtain ⟨⟨hok,hsmall⟩,hlen⟩:=hok
    split at h
    ·rename_i out hf
     split at h
     ·rename_i vs hvs
      refine ⟨_,h,?_⟩
      obtain ⟨hp,_⟩:=S.parts parts.toList
      obtain ⟨i,z,hi,hz,hsz,hCR⟩:=Z4 (Γ:=Γ) (sh:=A1 st.hp) (w:=w) hok
      obtain ⟨_,_,_,hpos⟩:=F1 hok
      have hks:0<(C.ti e).ks.length:=by rename_i h1 h2;omega
      have hM:=HA hCR (by simpa using hks) len
      rw [List.length_map] at hM
      obtain ⟨B,e1,e2,e3⟩:=X4 (place':=λj=>some (j*i.size,i.size)) (λj off size hj h0=>by rw [hsz];exact hj) hf hM hp
      obtain ⟨f1,f2⟩:=G6 (As:=B.toList) hvs (by simpa using e2.1.symm) (λj hj=>by
       obtain ⟨U,e,k⟩:=e2.2 j hj
       exact ⟨U,by simpa using e,k⟩)
      have hBs:B.size=len*(C.ti e).ks.length:=by
       have hlenf:∀ {place:Nat->Option (Nat × Nat)} {ps:List (Nat × PV)} {cells out:List PV},W7 place cells ps=some out->out.length=cells.length:=by
        intro place ps
        induction ps with
        | nil=>intro cells out h;simp only [W7,Option.some.injEq] at h;rw [h]
        | cons p ps ih=>
         intro cells out h
         obtain ⟨i,v⟩:=p
         simp only [W7] at h
         split at h
         ·split at h
          ·rw [ih h,B4]
          grind
         grind
       rw [e2.1,hlenf hf,Aa,List.length_map]
      have hvl:vs.length=len*(C.ti e).ks.length:=by rw [f1,Array.length_toList,hBs]
      intro w2
      have hr:=S7 (P:=C.P) w2 len (parts.map λ(i,x)=>(i,a.eval x)) B (E1 hsh) hi hz (by rw [hsz];exact hsmall) (by rw [hsz] at e1 ⊢;rw [Array.toList_map];exact e1)
      refine ⟨.slice (some ⟨w2.heap.size,0,none⟩) len len,.cells B e,by simp only [execOp,hop];simp [hr],λSt w1 hB hSt hx=>?_⟩
      refine .sl true _ w2.heap.size 0 len len _ (λi j=>(B[i*(C.ti e).ks.length+j]?).getD undef) (by rw [M7]) (Nat.le_refl _) (by simp only [maxLen];omega) (λ_=>rfl) hSt (λi hi=>(T1 _ _ _ hvl i hi).1) (λi hi j hj=>?_) (λi hi j hj=>?_)
      ·obtain ⟨h2,_⟩:=(T1 _ _ _ hvl i hi).2 j hj
       have:i*(C.ti e).ks.length+j<B.size:=by rw [hBs,<-hvl];exact h2
       simp [World.cell?,hx,this]
      ·obtain ⟨h2,e4⟩:=(T1 _ _ _ hvl i hi).2 j hj
       obtain ⟨U,e5,k5⟩:=f2 _ h2
       rw [e4]
       have e6:(B[i*(C.ti e).ks.length+j]?).getD undef=U:=by grind
       rw [e6]
       exact k5.mono (λg hg=>(hB g hg).2) (λg hg=>(hB g hg).1)
     grind
    grind
   ·cases h
  ·cases h
 ·cases h
theorem Ka {d:Option Tmp} {a a':Act} (h:Zf d a a') {o4:Oper} (hd:∀ t,d=some t->t∉Qi o4):∀ x∈o4.op.operands,a'.eval x=a.eval x:=by
 intro x hx
 cases x with
 | tmp t=>
  have:d≠some t:=λe=>hd t e (List.mem_filterMap.2 ⟨.tmp t,by simpa using hx,rfl⟩)
  have e:=h t this
  simp only [Act.eval,Array.getD_eq_getD_getElem?,e]
 | _=>rfl
theorem WX {ro:Option Nat} {n:Nat} {all:Array Oper} {i4:Nat} {o4:Oper} {t:Trn} {Sb:Nat->Prop} {wb:World} (ho:all[i4]? = some o4) (hg:o4.guard=none) (hop:MK o4.op) (hrow:Kz C Sb wb o4 a.eval t) {K:Act->World->Prop}
  (h:∀ V x,t.B C Sb wb V x w.heap.size->K (a.put o4.dst V) (w.alloc x)):wpOpIn (C1 ro) n C.P all QF i4 K a w:=by
 unfold wpOpIn
 simp only [ho]
 rw [if_pos (by simp [Region.wanted,hg])]
 refine ⟨λ_ _=>trivial,?_⟩
 rw [Oper.semAt_eq _ _ _ (λc e=>by rcases hop with ⟨_,_,_,h⟩ | ⟨_,h⟩<;>rw [h] at e<;>cases e)]
 obtain ⟨V,x,h1,h2⟩:=hrow w
 rw [h1]
 exact h V x h2
structure Ua (C:Cfg) (Sb:Nat->Prop) (wb:World) (d:Option Tmp) (t:Trn) (g:Nat) (x:Obj) (Γ:Ctx) (Φ:Nat->Prop) (a:Act) (w:World):Prop where
 at':w.heap[g]? = some x
 st:¬ Γ.St g
 nm:∀ b,Γ.nm b≠some g
 fo:¬ Φ g
 ex:∃ V,t.B C Sb wb V x g
 val:∀ V,(∃ t,d=some t/\a.tmps[t]? = some V)->t.B C Sb wb V x g
 base:Bas Sb wb Γ.St w
theorem Xm (S:SI C I Γ Φ st a.tmps w) (d:Option Tmp):SI C I Γ Φ { st with sl:=G8 d .bad st.sl } a.tmps w:=by
 cases d with
 | none=>exact S
 | some t=>exact ⟨S.hr,S.sr.set t (λV _=>.bad V) (by simp [PV.nms]),S.g,S.inv,S.dis⟩
theorem Tw (S:SI C I Γ Φ st a.tmps w) {d:Option Tmp} {v:PV} (h:∀ V,(∃ t,d=some t/\a.tmps[t]? = some V)->VP Γ (A1 st.hp) w v V) (hn:∀ c∈v.nms,c<st.hp.length):SI C I Γ Φ { st with sl:=G8 d v st.sl } a.tmps w:=by
 cases d with
 | none=>exact S
 | some t=>exact ⟨S.hr,S.sr.set t (λV hV=>h V ⟨t,rfl,hV⟩) hn,S.g,S.inv,S.dis⟩
theorem Ua.step {Γ':Ctx} {Φ':Nat->Prop} {H':List Blk} {a':Act} {w':World} {d4 d:Option Tmp} {t:Trn} {g:Nat} {x:Obj} {Sb:Nat->Prop} {wb:World} (h:Ua C Sb wb d4 t g x Γ Φ a w) (hs:Stp C Γ st.hp w Φ Γ' H' w' Φ') (hst:∀ q,Γ.St q->w'.heap[q]? = w.heap[q]?) (hag:Zf d a a') (hne:d4≠none->d≠d4):Ua C Sb wb d4 t g x Γ' Φ' a' w':=by
 have hlt:g<w.heap.size:=(Array.getElem?_eq_some_iff.1 h.at').1
 refine ⟨by rw [hs.frame g hlt h.nm h.fo];exact h.at',λe=>?_,λb e=>?_,λe=>?_,h.ex,?_,λq hq=>⟨hs.sub q (h.base q hq).1,(hst q (h.base q hq).1).trans (h.base q hq).2⟩⟩
 ·rcases hs.stnew g e with e | e
  ·exact h.st e
  ·omega
 ·rcases hs.own b g e with ⟨_,e⟩ | e
  ·exact h.nm b e
  ·omega
 ·rcases hs.foot g e with e | e
  ·exact h.fo e
  ·omega
 ·rintro V ⟨t,ht,hV⟩
  have:d≠some t:=λe=>hne (by rw [ht];simp) (by rw [e,ht])
  rw [hag t this] at hV
  exact h.val V ⟨t,ht,hV⟩
theorem Jz {H:List Blk} (x:Blk) (g:Nat):P7 Γ (A1 H) w (Γ.upd H.length g) (A1 (H++[x])) w (· < H.length):=
 ⟨λ_ _=>rfl,λ_ h=>h,λb hb=>by simp only [Ctx.upd];rw [if_neg (by omega)],λb hb=>H8 hb,λ_ _ _ _=>rfl,rfl⟩
theorem Stp.adopt {Γ0:Ctx} {H0 H:List Blk} {w0:World} {Φ0:Nat->Prop} {g:Nat} (x:Blk) (hs:Stp C Γ0 H0 w0 Φ0 Γ H w Φ) (hg:w0.heap.size<=g):Stp C Γ0 H0 w0 Φ0 (Γ.upd H.length g) (H++[x]) w Φ:=by
 have hl:=hs.len
 refine ⟨hs.os,hs.tape,hs.output,hs.size,hs.sub,hs.stnew,λb g' h=>?_,hs.foot,hs.frame,hs.yv,by simp;omega,λb hb hf=>?_⟩
 ·simp only [Ctx.upd] at h
  split at h
  ·grind
  ·exact hs.own b g' h
 ·obtain ⟨p1,p2,p3⟩:=hs.keep b hb hf
  exact ⟨by simp only [Ctx.upd];rw [if_neg (by omega)];exact p1,by rw [H8 (by omega)];exact p2,p3⟩
theorem SI.adopt (S:SI C I Γ Φ st a.tmps w) {x:Blk} {g:Nat} (hlt:g<w.heap.size) (h1:¬ Γ.St g) (h2:∀ b,Γ.nm b≠some g) (h3:¬ Φ g) (hb:BR (Γ.upd st.hp.length g) (A1 (st.hp++[x])) w st.hp.length x) (hn:∀ c∈x.nms,c<st.hp.length+1) :
  SI C I (Γ.upd st.hp.length g) Φ { st with hp:=st.hp++[x] } a.tmps w:=by
 have M:P7 Γ (A1 st.hp) w (Γ.upd st.hp.length g) (A1 (st.hp++[x])) w (· < st.hp.length):=Jz x g
 refine ⟨⟨λb b' g' k1 k2=>?_,λb g' h=>?_,S.hr.stlt,λb hb' c hc=>?_,λb hb'=>?_⟩,SR.grow M S.sr,S.g,S.inv,λb g' h=>?_⟩
 ·simp only [Ctx.upd] at k1 k2
  split at k1<;>split at k2
  ·omega
  ·rw [<-k1] at k2;exact absurd k2 (h2 b')
  ·rw [<-k2] at k1;exact absurd k1 (h2 b)
  ·exact S.hr.inj b b' g' k1 k2
 ·simp only [Ctx.upd] at h
  split at h
  ·simp only [Option.some.injEq] at h
   subst h
   exact ⟨by simp;omega,hlt,h1⟩
  ·have:=S.hr.lt b g' h
   exact ⟨by simp;omega,this.2⟩
 ·rw [List.length_append,List.length_singleton] at hb' ⊢
  by_cases e:b=st.hp.length
  ·subst e
   simp at hc
   exact hn c hc
  ·have hb2:b<st.hp.length:=by omega
   rw [List.getElem_append_left hb2] at hc
   have:=S.hr.nms b hb2 c hc;omega
 ·rw [List.length_append,List.length_singleton] at hb'
  by_cases e:b=st.hp.length
  ·subst e
   simpa using hb
  ·have hb2:b<st.hp.length:=by omega
   rw [List.getElem_append_left hb2]
   exact (S.hr.blk b hb2).mono M (M.nm b hb2) (λ_ _=>rfl) (λc hc=>S.hr.nms b hb2 c hc)
 ·simp only [Ctx.upd] at h
  split at h
  ·simp only [Option.some.injEq] at h
   subst h
   exact h3
  ·exact S.dis b g' h
theorem UV {k:St σ->Option R} {d:Option Tmp} {t:Trn} {g:Nat} {x:Obj} {Sb:Nat->Prop} {wb:World} (hI:HI I) (S:SI C I Γ Φ st a.tmps w) (h:Fd C d t st k=some r) (hah:Ua C Sb wb d t g x Γ Φ a w) :
  ∃ st' Γ',k st'=some r/\SI C I Γ' Φ st' a.tmps w/\∀ {Γ0:Ctx} {H0:List Blk} {w0:World} {Φ0:Nat->Prop},Stp C Γ0 H0 w0 Φ0 Γ st.hp w Φ->w0.heap.size<=g->Stp C Γ0 H0 w0 Φ0 Γ' st'.hp w Φ:=by
 have hlt:g<w.heap.size:=(Array.getElem?_eq_some_iff.1 hah.at').1
 cases t with
 | row v=>
  have S':=S.wideSt hI (St':=λy=>Γ.St y\/y=g) (λ_ h=>.inl h) (λy hy=>by rcases hy with hy | rfl;exact λe=>(hI.foot _ _ _ _ S.inv y e).2 hy;exact hah.fo) (λb y hb=>by
   rintro (hy | rfl)
   ·exact (S.hr.lt b y hb).2.2 hy
   ·exact hah.nm b hb) (λy hy=>by rcases hy with hy | rfl;exact S.hr.stlt y hy;exact hlt)
  exact ⟨_,_,h,Tw S' (λV hV=>.s _ _ (hah.val V hV _ _ (λq hq=>⟨.inl (hah.base q hq).1,(hah.base q hq).2⟩) (.inr rfl) hah.at')) (by simp [PV.nms]),λhs hg=>⟨hs.os,hs.tape,hs.output,hs.size,λy hy=>.inl (hs.sub y hy),λy hy=>by rcases hy with hy | rfl;exact hs.stnew y hy;exact .inr hg,hs.own,hs.foot,hs.frame,hs.yv,hs.len,hs.keep⟩⟩
 | var e=>
  obtain ⟨_,hok,hsh,_,z,rfl,hz⟩:=hah.ex
  simp only [Fd,Oq,hok,if_true] at h
  have hc:=hz Γ (A1 st.hp) w
  obtain ⟨T,e1,e2,e3,e4,e5,e6,e7⟩:=L9 (C:=C) (C.nilT e) ((C.ti e).ks.map J8) 0 st.hp z.cells.toList S.hr (by simpa using hc.1.symm) (λj hj=>by
   obtain ⟨U,e,k⟩:=hc.2 j hj
   exact ⟨U,by simpa using e,k⟩) (by rw [Ff];simp)
  rw [e1] at h
  have S1:SI C I Γ Φ { st with hp:=st.hp++T } a.tmps w:=⟨e2,SR.grow e4 S.sr,S.g,S.inv,S.dis⟩
  have S2:=S1.adopt (x:=.box (D6 (C.nilT e) ((C.ti e).ks.map J8) 0 st.hp).1) hlt hah.st hah.nm hah.fo ⟨g,z.cells,e,by simp [Ctx.upd],hah.at',by simpa using e5.symm,λj hj=>by
   obtain ⟨U,f1,f2⟩:=e6 j hj
   exact ⟨U,by simpa using f1,f2.mono (Jz _ g) λc hc=>e7 c (A8.2 ⟨j,hj,hc⟩)⟩⟩ (λc hc=>by have:=e7 c hc;simp only at this ⊢;omega)
  exact ⟨_,_,h,Tw S2 (λV hV=>by
   obtain ⟨_,_,rfl,_⟩:=hah.val V hV
   exact .ptrB _ 0 g D4 (by simp [Ctx.upd])) (by simp [PV.nms]),λhs hg=>Stp.adopt _ (hs.trans (e3.lift Φ)) hg⟩
theorem Zo {all:Array Oper} {i4:Nat} {o4:Oper} {i:Nat} {rest:List Nat} (ho:all[i4]? = some o4) (hap:Ck all i4 (i::rest)=true):∃ o,all[i]? = some o/\(∀ t,o.dst=some t->t∉Qi o4)/\(o4.dst≠none->o.dst≠o4.dst)/\Ck all i4 rest=true:=by
 unfold Ck at hap ⊢
 grind
section
variable {ΓF : Ctx} {HF : List Blk} {wF : World} {ΦF : Nat -> Prop} {fd : Option (List Nat × List Nat)}
theorem Xa {Sb:Nat->Prop} {wb:World} {ro:Option Nat} {n:Nat} {all:Array Oper} {E:Act->World->Prop} {i4:Nat} {o4:Oper} {t:Trn} {post:List Nat} {Γ0:Ctx} {H0:List Blk} {w0:World} {Φ0:Nat->Prop} {ds:List Deferred} {g:Nat} {x:Obj} {k:St σ->Option R} (A:Ask C I cl yh yv) (hF:HR ΓF HF wF) (ho:all[i4]? = some o4) (hpost:∀ i∈post,i<all.size) (hg:w0.heap.size<=g) (hgF:wF.heap.size<=g) (hN:Nxt C I Γ0 Φ0 H0 w0 ds k r E):∀ (mid:List Nat) {Γ:Ctx} {Φ:Nat->Prop} {st:St σ} {a:Act} {w:World},(∀ i∈mid,i<all.size)->Ck all i4 mid=true->Γ.yv=yv->
  Gk C cl yh all fd HF o4.dst mid st (λst2=>Fd C o4.dst t st2 λst3=>Am C cl yh all fd HF false post st3 k)=some r->SI C I Γ Φ st a.tmps w->Ua C Sb wb o4.dst t g x Γ Φ a w->Stp C Γ0 H0 w0 Φ0 Γ st.hp w Φ->Stp C ΓF HF wF ΦF Γ st.hp w Φ->a.defers=ds->F9 (C1 ro) n C.P all (DX ΓF wF fd) (L2 fd) (C8 C all) E (mid++post) a w
 | [],Γ,Φ,st,a,w,hlt,hap,hyv,h,S,hah,hs,hsF,hd=>by
  simp only [Gk] at h
  obtain ⟨st',Γ',h',S',hs'⟩:=UV A.hI S h hah
  have hs':=@hs'
  have h1:=hs' hs hg
  have h2:=hs' hsF hgF
  exact R9 A hF post hpost (h1.yv.trans (hs.yv.symm.trans hyv)) (λe=>by cases e) h' S' h2 λst2 a2 w2 Γ2 Φ2 q1 q2 q3 q4=>hN st2 a2 w2 Γ2 Φ2 q1 (h1.trans q2) q3 (q4.trans hd)
 | i::rest,Γ,Φ,st,a,w,hlt,hap,hyv,h,S,hah,hs,hsF,hd=>by
  obtain ⟨o,hi,hd1,hd2,hap'⟩:=Zo ho hap
  simp only [Gk] at h
  exact Gy (E:=F9 (C1 ro) n C.P all (DX ΓF wF fd) (L2 fd) (C8 C all) E (rest++post)) hi (R9 A hF [i] (λj hj=>hlt j (by simp at hj;simp [hj])) hyv (λe=>by cases e) h S hsF λst' a' w' Γ' Φ' k1 k2 k3 k4 hag=>
   Xa A hF ho hpost hg hgF hN rest (λj hj=>hlt j (by simp [hj])) hap' (k2.yv.trans hyv) k1 (Xm k3 o4.dst) (hah.step k2 (k2.st S.hr λg h=>(A.hI.foot _ _ _ _ S.inv g h).2) hag hd2) (hs.trans k2) (hsF.trans k2) (k4.trans hd))
theorem TC {Sb:Nat->Prop} {wb:World} {ro:Option Nat} {n:Nat} {all:Array Oper} {E:Act->World->Prop} {i4:Nat} {o4:Oper} {t:Trn} {post:List Nat} (A:Ask C I cl yh yv) (hF:HR ΓF HF wF) (ho:all[i4]? = some o4) (hg:o4.guard=none) (hop:MK o4.op) (hpost:∀ i∈post,i<all.size):∀ (mid:List Nat) {Γ:Ctx} {Φ:Nat->Prop} {st:St σ} {a:Act} {w:World} {k:St σ->Option R},(∀ i∈mid,i<all.size)->Ck all i4 mid=true->Γ.yv=yv->
  Gk C cl yh all fd HF o4.dst mid { st with sl:=G8 o4.dst .bad st.sl } (λst2=>Fd C o4.dst t st2 λst3=>Am C cl yh all fd HF false post st3 k)=some r->SI C I Γ Φ st a.tmps w->Stp C ΓF HF wF ΦF Γ st.hp w Φ->Bas Sb wb Γ.St w->Kz C Sb wb o4 a.eval t->Nxt C I Γ Φ st.hp w a.defers k r E->Nt (C1 ro) n C.P all (DX ΓF wF fd) (L2 fd) (C8 C all) E i4 post mid a w:=by
 have early:∀ (mid:List Nat) {Γ:Ctx} {Φ:Nat->Prop} {st:St σ} {a:Act} {w:World} {k:St σ->Option R},(∀ i∈mid,i<all.size)->Ck all i4 mid=true->Γ.yv=yv->
   Gk C cl yh all fd HF o4.dst mid { st with sl:=G8 o4.dst .bad st.sl } (λst2=>Fd C o4.dst t st2 λst3=>Am C cl yh all fd HF false post st3 k)=some r->SI C I Γ Φ st a.tmps w->Stp C ΓF HF wF ΦF Γ st.hp w Φ->Bas Sb wb Γ.St w->Kz C Sb wb o4 a.eval t->Nxt C I Γ Φ st.hp w a.defers k r E->
   ∀ w1,E8 w w1->wpOpIn (C1 ro) n C.P all QF i4 (λa' w'=>E8 w1 w'/\F9 (C1 ro) n C.P all (DX ΓF wF fd) (L2 fd) (C8 C all) E (mid++post) a' w') a w1:=by
  intro mid Γ Φ st a w k hlt hap hyv h S hsF hB hrow hN w1 hw1
  refine WX ho hg hop hrow λV x hV=>⟨Bm w1 x,?_⟩
  obtain ⟨S1,hs1⟩:=S.like A.hI hw1
  obtain ⟨S2,hs2⟩:=S1.like A.hI (Bm w1 x)
  refine Xa (a:=a.put o4.dst V) A hF ho hpost hw1.1.2 (Nat.le_trans hsF.size hw1.1.2) hN mid hlt hap hyv h (S2.put (o:=o4) (v:=.bad) (V:=V) (.bad V) (by simp [PV.nms])) ⟨C5 rfl,λe=>Nat.lt_irrefl _ (S1.hr.stlt _ e),λb e=>Nat.lt_irrefl _ (S1.hr.lt b _ e).2.1,λe=>Nat.lt_irrefl _ (A.hI.foot _ _ _ _ S1.inv _ e).1,⟨V,hV⟩,?_,λq hq=>⟨(hB q hq).1,by rw [C6 (w':=w1.alloc x) (o:=x) rfl (S1.hr.stlt q (hB q hq).1),hw1.1.1 q (S.hr.stlt q (hB q hq).1)];exact (hB q hq).2⟩⟩ (hs1.trans hs2) (hsF.trans (hs1.trans hs2)) (put_defers _ _ _)
  rintro V' ⟨t,ht,hV'⟩
  have e:V'=V:=by
   rw [ht] at hV'
   simp only [Act.put] at hV'
   have:=(Array.getElem?_eq_some_iff.1 hV').1
   simp at this
   simpa [this] using hV'.symm
  rw [e]
  exact hV
 intro mid
 induction mid with
 | nil=>
  intro Γ Φ st a w k hlt hap hyv h S hsF hB hrow hN
  exact early [] hlt hap hyv h S hsF hB hrow hN
 | cons i rest ih=>
  intro Γ Φ st a w k hlt hap hyv h S hsF hB hrow hN
  refine ⟨?_,λ_=>early (i::rest) hlt hap hyv h S hsF hB hrow hN⟩
  obtain ⟨o,hi,hd1,hd2,hap'⟩:=Zo ho hap
  have S0:=Xm S o4.dst
  simp only [Gk] at h
  exact Gy (E:=Nt (C1 ro) n C.P all (DX ΓF wF fd) (L2 fd) (C8 C all) E i4 post rest) hi (R9 A hF [i] (λj hj=>hlt j (by simp at hj;simp [hj])) hyv (λe=>by cases e) h S0 hsF λst' a' w' Γ' Φ' k1 k2 k3 k4 hag=>
   ih (λj hj=>hlt j (by simp [hj])) hap' (k2.yv.trans hyv) k1 k3 (hsF.trans k2) (λq hq=>⟨k2.sub q (hB q hq).1,(k2.st S.hr (λg h=>(A.hI.foot _ _ _ _ S.inv g h).2) q (hB q hq).1).trans (hB q hq).2⟩) (by
    have e:=execOp_congr (ρ:=a'.eval) (ρ':=a.eval) o4 (λcs b e=>by rcases hop with ⟨_,_,_,h⟩ | ⟨_,h⟩<;>rw [h] at e<;>cases e) (Ka hag hd1)
    unfold Kz at hrow ⊢
    rw [e]
    exact hrow) λst2 a2 w2 Γ2 Φ2 q1 q2 q3 q4=>hN st2 a2 w2 Γ2 Φ2 q1 (k2.trans q2) q3 (q4.trans k4))
end
theorem UH {ro:Option Nat} {n id i4:Nat} {ops:Array Oper} {o4:Oper} {Q:Exit->Act->World->Prop} {k:St σ->Option R} (A:Ask C I cl yh yv) (hm:C.P.follows .mixedOrders=true) {fd:Option (List Nat × List Nat)} (hok:UF C fd ops i4=true) (hyv:Γ.yv=yv) (ho:ops[i4]? = some o4)
  (h:(Am C cl yh ops fd st.hp true (M3 C ops) st λst1=>MJ C o4 st1.sl λt=>
    Gk C cl yh ops fd st.hp o4.dst (Cl C ops i4) { st1 with sl:=G8 o4.dst .bad st1.sl } λst2=>Fd C o4.dst t st2 λst3=>
     Am C cl yh ops fd st.hp false (Z3 C ops i4) st3 k)=some r) (S:SI C I Γ Φ st a.tmps w)
  (hN:Nxt C I Γ Φ st.hp w a.defers k r (λa' w'=>Q .normal a' w')):(Code.region id ops true).wpIn (C1 ro) n C.P Q a w:=by
 simp only [UF,Bool.and_eq_true] at hok
 obtain ⟨h1,h2,h3,h4,h5,h6,h7⟩:=hok
 rw [List.all_eq_true] at h2 h4
 have hnd:∀ (j:Nat) (o:Oper) c,ops[j]? = some o->o.op≠.defer c:=λj o c ho e=>by
  have:=h2 o (by simpa using Array.mem_of_getElem? ho)
  rw [e] at this
  cases this
 have hk:∀ j,ops.size<=j->C8 C ops j<=1:=λj hj=>by
  simp only [C8,Array.getElem?_eq_none hj]
  exact Nat.le_refl _
 have hlt:∀ j,j∈M3 C ops\/j∈Cl C ops i4\/j∈Z3 C ops i4->j<ops.size:=λj hj=>Gu (h4 j (by
  rcases hj with hj | hj | hj<;>simp [hj]))
 have hC:F9 (C1 ro) n C.P ops (DX Γ w fd) (L2 fd) (C8 C ops) (Nt (C1 ro) n C.P ops (DX Γ w fd) (L2 fd) (C8 C ops) (λa w0=>∀ w,E8 w0 w->Q .normal a w) i4 (Z3 C ops i4) (Cl C ops i4)) (M3 C ops) a w:=
  R9 A S.hr _ (λi hi=>hlt i (.inl hi)) hyv (λ_ _ h=>h) h S (Stp.refl S.hr) λst1 a1 w1 Γ1 Φ1 k1 k2 k3 k4=>by
   obtain ⟨hg,hop,v,hv,hrow⟩:=Xl k3 k1
   exact TC A S.hr ho hg hop (λi hi=>hlt i (.inr (.inr hi))) _ (λi hi=>hlt i (.inr (.inl hi))) h5 (k2.yv.trans hyv) hv k3 k2 (λq hq=>⟨hq,rfl⟩) hrow λst2 a2 w2 Γ2 Φ2 q1 q2 q3 q4 w3 hw3=>by
    obtain ⟨S3,hs3⟩:=q3.like A.hI hw3
    exact hN st2 a2 w3 Γ2 Φ2 q1 (k2.trans (q2.trans hs3)) S3 (q4.trans k4)
 refine wpIn_region_any hm ?_
 have hlen:=Nat.eq_of_beq_eq_true h3
 have e:ops.size=(Z3 C ops i4).length+1+(Cl C ops i4).length+(M3 C ops).length:=by
  rw [<-hlen]
  simp only [List.length_append,List.length_cons]
  omega
 rw [e]
 refine Bd (wr:=λj=>Nat.ble 3 (C8 C ops j)) (Qn:=λa w=>Q .normal a w) (λ_ _ h=>h) _ _ _ _ (Fm (fin:=Ig .any ops (L2 fd) (C8 C ops) i4 (Z3 C ops i4) (Cl C ops i4)) h1 hnd hk
  (λlisted a w0 hf hd hM w hw=>Ak1 h1 hnd hk _ listed a w0 hf hd hM w hw) (M3 C ops) (Array.replicate ((Z3 C ops i4).length+1+(Cl C ops i4).length+(M3 C ops).length) false) a w (by rw [<-e];exact h7) (λj o ho hj=>?_) hC _ ⟨⟨λ_ _=>rfl,Nat.le_refl _⟩,rfl,rfl,rfl⟩)
 simp only [Array.getD_eq_getD_getElem?,Array.getElem?_replicate] at hj
 split at hj<;>cases hj
end
theorem Ab0 (d e:Option Nat) (sl:List PV):G8 d .bad (G8 e .bad sl)=G8 e .bad (G8 d .bad sl):=by
 cases d<;>cases e<;>simp only [G8]
 rename_i d e
 by_cases h:d=e
 ·rw [h]
 ·exact List.set_comm _ _ (λq=>h q.symm)
theorem Aa9 (d:Option Nat) (sl:List PV):G8 d .bad (G8 d .bad sl)=G8 d .bad sl:=by
 cases d<;>simp [G8]
theorem Wr:∀ {ts:List (Nat × Option Nat × Trn)} {seq:List Nat} {sl:List PV} {f:Nat} {d:Option Nat} {t:Trn},lkT ts f=some (d,t)->f∈seq->G8 d .bad (Hj ts seq sl)=Hj ts seq sl
 | [],seq,sl,f,d,t,h,_=>by cases h
 | e::r,seq,sl,f,d,t,h,hf=>by
  unfold lkT at h
  unfold Hj
  cases hb:Nat.beq f e.1 with
  | true=>
   rw [hb,cond_true] at h
   have h:=Option.some.inj h
   have hfe:=Nat.eq_of_beq_eq_true hb
   rw [<-hfe,Ms.2 hf,cond_true,h]
   exact Aa9 _ _
  | false=>
   rw [hb,cond_false] at h
   have ih:=Wr (sl:=sl) h hf
   cases okN seq e.1 with
   | false=>exact ih
   | true=>rw [cond_true,Ab0,ih]
section
variable {σ R : Type} {r : R} {C : Cfg} {I : σ -> (Nat -> Prop) -> (Nat -> Prop) -> World -> Prop} {Γ : Ctx} {Φ : Nat -> Prop} {st : St σ} {a : Act} {w : World} {cl : D0} {yh : Yh σ} {yv : Value} {o : Oper}
theorem Wq:∀ (ts:List (Nat × Option Nat × Trn)) (seq:List Nat),SI C I Γ Φ st a.tmps w->SI C I Γ Φ { st with sl:=Hj ts seq st.sl } a.tmps w
 | [],seq,S=>S
 | e::r,seq,S=>by
  have:=Wq r seq S
  unfold Hj
  cases okN seq e.1 with
  | false=>exact this
  | true=>exact Xm this e.2.1
theorem NA {k:St σ->Option R} {d:Option Tmp} {t:Trn} {g:Nat} {x:Obj} {Sb:Nat->Prop} {wb:World} (hI:HI I) (S:SI C I Γ Φ st a.tmps w) (h:Fd C d t st k=some r) (hah:Ua C Sb wb d t g x Γ Φ a w) :
  ∃ st' Γ',k st'=some r/\SI C I Γ' Φ st' a.tmps w/\(∀ {Γ0:Ctx} {H0:List Blk} {w0:World} {Φ0:Nat->Prop},Stp C Γ0 H0 w0 Φ0 Γ st.hp w Φ->w0.heap.size<=g->Stp C Γ0 H0 w0 Φ0 Γ' st'.hp w Φ)/\
   (∃ v,st'.sl=G8 d v st.sl)/\(∀ q,Γ.St q->Γ'.St q)/\Γ'.yv = Γ.yv/\∀ g',g'≠g->(Γ'.St g'->Γ.St g')/\∀ b,Γ'.nm b=some g'->∃ b',Γ.nm b'=some g':=by
 have hlt:g<w.heap.size:=(Array.getElem?_eq_some_iff.1 hah.at').1
 cases t with
 | row v=>
  have S':=S.wideSt hI (St':=λy=>Γ.St y\/y=g) (λ_ h=>.inl h) (λy hy=>by rcases hy with hy | rfl;exact λe=>(hI.foot _ _ _ _ S.inv y e).2 hy;exact hah.fo) (λb y hb=>by
   rintro (hy | rfl)
   ·exact (S.hr.lt b y hb).2.2 hy
   ·exact hah.nm b hb) (λy hy=>by rcases hy with hy | rfl;exact S.hr.stlt y hy;exact hlt)
  exact ⟨_,_,h,Tw S' (λV hV=>.s _ _ (hah.val V hV _ _ (λq hq=>⟨.inl (hah.base q hq).1,(hah.base q hq).2⟩) (.inr rfl) hah.at')) (by simp [PV.nms]),λhs hg=>⟨hs.os,hs.tape,hs.output,hs.size,λy hy=>.inl (hs.sub y hy),λy hy=>by rcases hy with hy | rfl;exact hs.stnew y hy;exact .inr hg,hs.own,hs.foot,hs.frame,hs.yv,hs.len,hs.keep⟩,
   ⟨_,rfl⟩,λq hq=>.inl hq,rfl,λg' hg'=>⟨λhq=>hq.resolve_right hg',λb hb=>⟨b,hb⟩⟩⟩
 | var e=>
  obtain ⟨_,hok,hsh,_,z,rfl,hz⟩:=hah.ex
  simp only [Fd,Oq,hok,if_true] at h
  have hc:=hz Γ (A1 st.hp) w
  obtain ⟨T,e1,e2,e3,e4,e5,e6,e7⟩:=L9 (C:=C) (C.nilT e) ((C.ti e).ks.map J8) 0 st.hp z.cells.toList S.hr (by simpa using hc.1.symm) (λj hj=>by
   obtain ⟨U,e,k⟩:=hc.2 j hj
   exact ⟨U,by simpa using e,k⟩) (by rw [Ff];simp)
  rw [e1] at h
  have S1:SI C I Γ Φ { st with hp:=st.hp++T } a.tmps w:=⟨e2,SR.grow e4 S.sr,S.g,S.inv,S.dis⟩
  have S2:=S1.adopt (x:=.box (D6 (C.nilT e) ((C.ti e).ks.map J8) 0 st.hp).1) hlt hah.st hah.nm hah.fo ⟨g,z.cells,e,by simp [Ctx.upd],hah.at',by simpa using e5.symm,λj hj=>by
   obtain ⟨U,f1,f2⟩:=e6 j hj
   exact ⟨U,by simpa using f1,f2.mono (Jz _ g) λc hc=>e7 c (A8.2 ⟨j,hj,hc⟩)⟩⟩ (λc hc=>by have:=e7 c hc;simp only at this ⊢;omega)
  exact ⟨_,_,h,Tw S2 (λV hV=>by
   obtain ⟨_,_,rfl,_⟩:=hah.val V hV
   exact .ptrB _ 0 g D4 (by simp [Ctx.upd])) (by simp [PV.nms]),λhs hg=>Stp.adopt _ (hs.trans (e3.lift Φ)) hg,
   ⟨_,rfl⟩,λq hq=>hq,rfl,λg' hg'=>⟨λhq=>hq,λb hb=>by
    simp only [Ctx.upd] at hb
    split at hb
    ·exact absurd (Option.some.inj hb).symm hg'
    ·exact ⟨b,hb⟩⟩⟩
def Sp (Dn:Nat->Option (Nat × Obj)) (f:Nat) (p:Nat × Obj):Nat->Option (Nat × Obj):=λj=>if j=f then some p else Dn j
def Sj (Dn:Nat->Option (Nat × Obj)) (f:Nat):Nat->Option (Nat × Obj):=λj=>if j=f then none else Dn j
abbrev Ah (Dn:Nat->Option (Nat × Obj)) (seq:List Nat):List Nat:=seq.filter λj=>(Dn j).isNone
theorem A83 {Dn:Nat->Option (Nat × Obj)} {seq:List Nat} (hn:seq.Nodup) (f:Nat) (p:Nat × Obj):Ah (Sp Dn f p) seq=(Ah Dn seq).erase f:=by
 have h0:List.Nodup (Ah Dn seq):=List.Pairwise.filter _ hn
 rw [h0.erase_eq_filter,List.filter_filter]
 refine List.filter_congr λj _=>?_
 unfold Sp
 by_cases h:j=f
 ·simp [h]
 ·simp [h]
theorem A82 {Dn:Nat->Option (Nat × Obj)} {seq:List Nat} {f:Nat} (hf:f∉seq):Ah (Sj Dn f) seq=Ah Dn seq:=by
 refine List.filter_congr λj hj=>?_
 unfold Sj
 have:j≠f:=by
  rintro rfl
  exact hf hj
 rw [if_neg this]
structure PT (C:Cfg) (all:Array Oper) (ts:List (Nat × Option Nat × Trn)) (Sb:Nat->Prop) (wb w0 wF:World) (seq:List Nat) (Dn:Nat->Option (Nat × Obj)) (Γ:Ctx) (Φ:Nat->Prop) (a:Act) (w:World) (sl:List PV):Prop where
 lt:∀ i∈seq,i<all.size
 nd:seq.Nodup
 fl:∀ f∈seq,∀ d t,lkT ts f=some (d,t)->C8 C all f=2/\(∃ o,all[f]? = some o/\o.guard=none/\MK o.op/\o.dst=d/\(Dn f=none->Kz C Sb wb o a.eval t))/\G8 d .bad sl=sl
 ap:∀ i∈seq,∀ f∈seq,i≠f->∀ d t,lkT ts f=some (d,t)->∀ oi og,all[i]? = some oi->all[f]? = some og->(∀ q,oi.dst=some q->q∉Qi og)/\(og.dst≠none->oi.dst≠og.dst)
 base:Bas Sb wb Γ.St w
 dn:∀ f g x,Dn f=some (g,x)->f∈seq/\w0.heap.size<=g/\wF.heap.size<=g/\∃ d t,lkT ts f=some (d,t)/\Ua C Sb wb d t g x Γ Φ a w
 dist:∀ f f' g x x',Dn f=some (g,x)->Dn f'=some (g,x')->f=f'
section
variable {ΓF : Ctx} {HF : List Blk} {wF : World} {ΦF : Nat -> Prop} {fd : Option (List Nat × List Nat)}
theorem TD {ro:Option Nat} {n:Nat} {all:Array Oper} {E:Act->World->Prop} {ts:List (Nat × Option Nat × Trn)} {Sb:Nat->Prop} {wb:World} {Γ0:Ctx} {H0:List Blk} {w0:World} {Φ0:Nat->Prop} {ds:List Deferred} {k:St σ->Option R} (A:Ask C I cl yh yv) (hF:HR ΓF HF wF) (hN:Nxt C I Γ0 Φ0 H0 w0 ds k r E) :
  ∀ (N:Nat) (seq:List Nat) (Dn:Nat->Option (Nat × Obj)) {Γ:Ctx} {Φ:Nat->Prop} {st:St σ} {a:Act} {w:World},seq.length+(Ah Dn seq).length<=N->∀ m,(Ah Dn seq).length<=m->PT C all ts Sb wb w0 wF seq Dn Γ Φ a w st.sl->Γ.yv=yv->
  Jj C cl yh all fd HF ts seq st k=some r->SI C I Γ Φ st a.tmps w->Stp C Γ0 H0 w0 Φ0 Γ st.hp w Φ->Stp C ΓF HF wF ΦF Γ st.hp w Φ->a.defers=ds->
  W9 (C1 ro) n C.P all (DX ΓF wF fd) (L2 fd) (C8 C all) E (ts.map (·.1)) m (Ah Dn seq) a w:=by
 have nil:∀ {Γ:Ctx} {Φ:Nat->Prop} {st:St σ} {a:Act} {w:World} (m:Nat),k st=some r->SI C I Γ Φ st a.tmps w->Stp C Γ0 H0 w0 Φ0 Γ st.hp w Φ->a.defers=ds->W9 (C1 ro) n C.P all (DX ΓF wF fd) (L2 fd) (C8 C all) E (ts.map (·.1)) m [] a w:=λm h S hs hd=>by
  cases m<;>exact hN _ _ _ _ _ h hs S hd
 have hlk0:∀ {l:List (Nat × Option Nat × Trn)} {f:Nat},f∈l.map (·.1)->∃ d t,lkT l f=some (d,t):=by
  intro l
  induction l with
  | nil=>intro f h;cases h
  | cons e r ih=>
   intro f h
   unfold lkT
   cases hb:Nat.beq f e.1 with
   | true=>exact ⟨e.2.1,e.2.2,rfl⟩
   | false=>
    rcases List.mem_cons.1 h with h | h
    ·rw [h,Nat.beq_refl] at hb;cases hb
    ·exact ih h
 intro N
 induction N with
 | zero=>
  intro seq Dn Γ Φ st a w hN0 m hm hp hyv h S hs hsF hd
  have:seq=[]:=List.eq_nil_of_length_eq_zero (by omega)
  subst this
  exact nil m h S hs hd
 | succ N ih=>
  intro seq Dn Γ Φ st a w hN0 m hm hp hyv h S hs hsF hd
  cases seq with
  | nil=>exact nil m h S hs hd
  | cons i rest=>
   have hnd:=List.nodup_cons.1 hp.nd
   have runF:∀ f,f∈i::rest->Dn f=none->∀ d t,lkT ts f=some (d,t)->∀ w1,E8 w w1->∀ m',((Ah Dn (i::rest)).erase f).length<=m'->
     wpOpIn (C1 ro) n C.P all QF f (λa' w'=>E8 w1 w'/\W9 (C1 ro) n C.P all (DX ΓF wF fd) (L2 fd) (C8 C all) E (ts.map (·.1)) m' ((Ah Dn (i::rest)).erase f) a' w') a w1:=by
    intro f hf hDf d t hlk w1 hw1 m' hm'
    obtain ⟨_,⟨o,ho,hg,hop,rfl,hrow⟩,hbad⟩:=hp.fl f hf d t hlk
    have hrow:=hrow hDf
    refine WX ho hg hop hrow λV x hV=>⟨Bm w1 x,?_⟩
    obtain ⟨S1,hs1⟩:=S.like A.hI hw1
    obtain ⟨S2,hs2⟩:=S1.like A.hI (Bm w1 x)
    have S3:=S2.put (o:=o) (v:=.bad) (V:=V) (.bad V) (by simp [PV.nms])
    have e:({ st with sl:=G8 o.dst .bad st.sl }:St σ)=st:=by rw [hbad]
    rw [e] at S3
    have hst:∀ q,Γ.St q->(w1.alloc x).heap[q]? = w.heap[q]?:=λq hq=>by
     rw [C6 (w':=w1.alloc x) (o:=x) rfl (S1.hr.stlt q hq),hw1.1.1 q (S.hr.stlt q hq)]
    have hrem:=A83 (Dn:=Dn) hp.nd f (w1.heap.size,x)
    have hfr:f∈Ah Dn (i::rest):=List.mem_filter.2 ⟨hf,by rw [hDf];rfl⟩
    have hlen:=List.length_erase_of_mem hfr
    have hpos:=List.length_pos_of_mem hfr
    rw [<-hrem] at hm' ⊢
    refine ih (i::rest) (Sp Dn f (w1.heap.size,x)) (by rw [hrem,hlen];omega) m' hm' ⟨hp.lt,hp.nd,λf' hf' d' t' hlk'=>?_,hp.ap,λq hq=>⟨(hp.base q hq).1,(hst q (hp.base q hq).1).trans (hp.base q hq).2⟩,λf' g x' hD=>?_,λf1 f2 g x1 x2 h1 h2=>?_⟩ hyv h S3 (hs.trans (hs1.trans hs2)) (hsF.trans (hs1.trans hs2)) (by rw [put_defers];exact hd)
    ·obtain ⟨q1,⟨o',ho',hg',hop',hd',hrow'⟩,q3⟩:=hp.fl f' hf' d' t' hlk'
     refine ⟨q1,⟨o',ho',hg',hop',hd',λhD=>?_⟩,q3⟩
     have hne:f≠f':=λe=>by subst e;simp [Sp] at hD
     have hD0:Dn f'=none:=by simpa [Sp,Ne.symm hne] using hD
     have hap:=hp.ap f hf f' hf' hne d' t' hlk' o o' ho ho'
     have e:=execOp_congr (ρ:=(a.put o.dst V).eval) (ρ':=a.eval) o' (λcs b e=>by rcases hop' with ⟨_,_,_,h⟩ | ⟨_,h⟩<;>rw [h] at e<;>cases e) (Ka (N5 a o.dst V) hap.1)
     have hr:=hrow' hD0
     unfold Kz at hr ⊢
     rw [e]
     exact hr
    ·by_cases hff:f'=f
     ·subst hff
      have hD:(w1.heap.size,x)=(g,x'):=by simpa [Sp] using hD
      cases hD
      refine ⟨hf,Nat.le_trans hs.size hw1.1.2,Nat.le_trans hsF.size hw1.1.2,o.dst,t,hlk,C5 rfl,λe=>Nat.lt_irrefl _ (S1.hr.stlt _ e),λb e=>Nat.lt_irrefl _ (S1.hr.lt b _ e).2.1,λe=>Nat.lt_irrefl _ (A.hI.foot _ _ _ _ S1.inv _ e).1,⟨V,hV⟩,?_,λq hq=>⟨(hp.base q hq).1,(hst q (hp.base q hq).1).trans (hp.base q hq).2⟩⟩
      rintro V' ⟨t',ht,hV'⟩
      have e:V'=V:=by
       rw [ht] at hV'
       simp only [Act.put] at hV'
       have:=(Array.getElem?_eq_some_iff.1 hV').1
       simp at this
       simpa [this] using hV'.symm
      rw [e]
      exact hV
     ·have hD:Dn f'=some (g,x'):=by simpa [Sp,hff] using hD
      obtain ⟨q1,q2,q3,d',t',q4,q5⟩:=hp.dn f' g x' hD
      obtain ⟨_,⟨o',ho',_,_,rfl,_⟩,_⟩:=hp.fl f' q1 d' t' q4
      exact ⟨q1,q2,q3,_,t',q4,q5.step (hs1.trans hs2) hst (N5 a o.dst V) (hp.ap f hf f' q1 (Ne.symm hff) _ t' q4 o o' ho ho').2⟩
    ·have old:∀ f3 x3,f3≠f->Dn f3=some (w1.heap.size,x3)->False:=λf3 x3 _ hD3=>by
      obtain ⟨_,_,_,_,_,_,q5⟩:=hp.dn f3 _ x3 hD3
      have:=(Array.getElem?_eq_some_iff.1 q5.at').1
      have:=hw1.1.2
      omega
     by_cases e1:f1=f
     ·by_cases e2:f2=f
      ·rw [e1,e2]
      ·have h1:(w1.heap.size,x)=(g,x1):=by simpa [Sp,e1] using h1
       have h2:Dn f2=some (g,x2):=by simpa [Sp,e2] using h2
       cases h1
       exact (old f2 x2 e2 h2).elim
     ·have h1:Dn f1=some (g,x1):=by simpa [Sp,e1] using h1
      by_cases e2:f2=f
      ·have h2:(w1.heap.size,x)=(g,x2):=by simpa [Sp,e2] using h2
       cases h2
       exact (old f1 x1 e1 h1).elim
      ·have h2:Dn f2=some (g,x2):=by simpa [Sp,e2] using h2
       exact hp.dist f1 f2 g x1 x2 h1 h2
   cases hDi:Dn i with
   | some gx=>
    obtain ⟨g,x⟩:=gx
    obtain ⟨q1,q2,q3,d,t,q4,q5⟩:=hp.dn i g x hDi
    simp only [Jj,q4] at h
    obtain ⟨st',Γ',h',S',hs',⟨v,hv⟩,hsub,hyv',hoth⟩:=NA A.hI S h q5
    have hrem:Ah Dn (i::rest)=Ah (Sj Dn i) rest:=by
     rw [A82 hnd.1]
     show List.filter _ _=_
     rw [List.filter_cons,hDi]
     rfl
    rw [hrem] at hm ⊢
    have hN1:rest.length+(Ah (Sj Dn i) rest).length<=N:=by
     rw [hrem,List.length_cons] at hN0
     omega
    obtain ⟨_,⟨oi,hoi,_,_,hdi,_⟩,_⟩:=hp.fl i q1 d t q4
    refine ih rest (Sj Dn i) hN1 m hm ⟨λj hj=>hp.lt j (by simp [hj]),hnd.2,λf hf d' t' hlk'=>?_,λj hj f hf=>hp.ap j (by simp [hj]) f (by simp [hf]),λq hq=>⟨hsub q (hp.base q hq).1,(hp.base q hq).2⟩,λf g' x' hD=>?_,λf1 f2 g' x1 x2 h1 h2=>?_⟩ (hyv'.trans hyv) h' S' (hs' hs q2) (hs' hsF q3) hd
    ·obtain ⟨p1,⟨o',ho',hg',hop',hd',hrow'⟩,p3⟩:=hp.fl f (by simp [hf]) d' t' hlk'
     have hne:i≠f:=λe=>hnd.1 (e ▸ hf)
     refine ⟨p1,⟨o',ho',hg',hop',hd',λhD=>hrow' (by simpa [Sj,Ne.symm hne] using hD)⟩,?_⟩
     rw [hv]
     have hap:=(hp.ap i q1 f (by simp [hf]) hne d' t' hlk' oi o' hoi ho').2
     cases d' with
     | none=>rfl
     | some d'=>
      cases d with
      | none=>exact p3
      | some d=>
       have hdd:d≠d':=λe=>hap (by rw [hd'];simp) (by rw [hdi,hd',e])
       simp only [G8] at p3 ⊢
       rw [List.set_comm _ _ hdd,p3]
    ·have hne:f≠i:=λe=>by subst e;simp [Sj] at hD
     have hD:Dn f=some (g',x'):=by simpa [Sj,hne] using hD
     obtain ⟨p1,p2,p3,d',t',p4,p5⟩:=hp.dn f g' x' hD
     have hgg:g'≠g:=λe=>hne (hp.dist f i g' x' x hD (by rw [e];exact hDi))
     have hf:f∈rest:=(List.mem_cons.1 p1).resolve_left hne
     refine ⟨hf,p2,p3,d',t',p4,p5.at',λe=>p5.st ((hoth g' hgg).1 e),λb e=>?_,p5.fo,p5.ex,p5.val,λq hq=>⟨hsub q (p5.base q hq).1,(p5.base q hq).2⟩⟩
     obtain ⟨b',e'⟩:=(hoth g' hgg).2 b e
     exact p5.nm b' e'
    ·have n1:f1≠i:=λe=>by subst e;simp [Sj] at h1
     have n2:f2≠i:=λe=>by subst e;simp [Sj] at h2
     exact hp.dist f1 f2 g' x1 x2 (by simpa [Sj,n1] using h1) (by simpa [Sj,n2] using h2)
   | none=>
    have hrem:Ah Dn (i::rest)=i::Ah Dn rest:=by
     show List.filter _ _=_
     rw [List.filter_cons,hDi]
     rfl
    have herase:∀ f,f∈Ah Dn rest->(Ah Dn (i::rest)).erase f=i::(Ah Dn rest).erase f:=λf hf=>by
     have hne:i≠f:=λe=>hnd.1 (by rw [e];exact (List.mem_filter.1 hf).1)
     rw [hrem,List.erase_cons_tail (by simpa using hne)]
    have heri:(Ah Dn (i::rest)).erase i=Ah Dn rest:=by rw [hrem];simp
    cases m with
    | zero=>rw [hrem] at hm;simp at hm
    | succ m=>
     rw [hrem,List.length_cons] at hm
     have floats:∀ w1,E8 w w1->∀ f,okN (ts.map (·.1)) f=true->f∈Ah Dn rest->wpOpIn (C1 ro) n C.P all QF f (λa' w'=>E8 w1 w'/\W9 (C1 ro) n C.P all (DX ΓF wF fd) (L2 fd) (C8 C all) E (ts.map (·.1)) m (i::(Ah Dn rest).erase f) a' w') a w1:=λw1 hw1 f hf hfr=>by
      obtain ⟨d,t,hlk⟩:=hlk0 (Ms.1 hf)
      obtain ⟨hfr1,hfr2⟩:=List.mem_filter.1 hfr
      have:=runF f (by simp [hfr1]) (by simpa using hfr2) d t hlk w1 hw1 m (by rw [herase f hfr,List.length_cons,List.length_erase_of_mem hfr];have:=List.length_pos_of_mem hfr;omega)
      rwa [herase f hfr] at this
     cases hlk:lkT ts i with
     | some dt=>
      obtain ⟨d,t⟩:=dt
      have hk2:=(hp.fl i (by simp) d t hlk).1
      rw [hrem]
      simp only [W9]
      refine ⟨λhk=>(by omega),λ_ w1 hw1=>⟨?_,floats w1 hw1⟩⟩
      have:=runF i (by simp) hDi d t hlk w1 hw1 m (by rw [heri];omega)
      rw [heri] at this
      exact wpOpIn_mono (λa' w' h3=>⟨λ_=>h3.1,λ_=>h3.1.x,h3.2⟩) this
     | none=>
      simp only [Jj,hlk] at h
      have hil:=hp.lt i (by simp)
      obtain ⟨o,ho⟩:∃ o,all[i]? = some o:=⟨all[i],Array.getElem?_eq_getElem hil⟩
      have hc:F9 (C1 ro) n C.P all (DX ΓF wF fd) (L2 fd) (C8 C all) (W9 (C1 ro) n C.P all (DX ΓF wF fd) (L2 fd) (C8 C all) E (ts.map (·.1)) m (Ah Dn rest)) [i] a w:=
       Gy ho (R9 A hF [i] (λj hj=>by rw [List.mem_singleton] at hj;rw [hj];exact hil) hyv (λe=>by cases e) h S hsF λst' a' w' Γ' Φ' k1 k2 k3 k4 hag=>by
        have hst:∀ q,Γ.St q->w'.heap[q]? = w.heap[q]?:=k2.st S.hr λg h=>(A.hI.foot _ _ _ _ S.inv g h).2
        refine ih rest Dn (by rw [hrem,List.length_cons,List.length_cons] at hN0;omega) m (by omega) ⟨λj hj=>hp.lt j (by simp [hj]),hnd.2,λf hf d' t' hlk'=>?_,λj hj f hf=>hp.ap j (by simp [hj]) f (by simp [hf]),λq hq=>⟨k2.sub q (hp.base q hq).1,(hst q (hp.base q hq).1).trans (hp.base q hq).2⟩,λf g x hD=>?_,hp.dist⟩ (k2.yv.trans hyv) k1 (Wq ts rest k3) (hs.trans k2) (hsF.trans k2) (k4.trans hd)
        ·obtain ⟨p1,⟨o',ho',hg',hop',hd',hrow'⟩,_⟩:=hp.fl f (by simp [hf]) d' t' hlk'
         have hne:i≠f:=λe=>hnd.1 (e ▸ hf)
         have hap:=hp.ap i (by simp) f (by simp [hf]) hne d' t' hlk' o o' ho ho'
         refine ⟨p1,⟨o',ho',hg',hop',hd',λhD=>?_⟩,Wr hlk' hf⟩
         have e:=execOp_congr (ρ:=a'.eval) (ρ':=a.eval) o' (λcs b e=>by rcases hop' with ⟨_,_,_,h⟩ | ⟨_,h⟩<;>rw [h] at e<;>cases e) (Ka hag hap.1)
         have hr:=hrow' hD
         unfold Kz at hr ⊢
         rw [e]
         exact hr
        ·obtain ⟨p1,p2,p3,d',t',p4,p5⟩:=hp.dn f g x hD
         have hne:i≠f:=λe=>by rw [e,hD] at hDi;cases hDi
         have hf:f∈rest:=(List.mem_cons.1 p1).resolve_left (Ne.symm hne)
         obtain ⟨_,⟨o',ho',_,_,rfl,_⟩,_⟩:=hp.fl f p1 d' t' p4
         exact ⟨hf,p2,p3,_,t',p4,p5.step k2 hst hag (hp.ap i (by simp) f p1 hne _ t' p4 o o' ho ho').2⟩)
      rw [hrem]
      simp only [W9]
      simp only [F9] at hc
      exact ⟨hc.1,λhk w1 hw1=>⟨hc.2 hk w1 hw1,floats w1 hw1⟩⟩
end
theorem Se {ops:Array Oper} (S:SI C I Γ Φ st a.tmps w):∀ (fl:List Nat) {k:List (Nat × Option Nat × Trn)->Option R},Sd C ops st.sl fl k=some r->
  ∃ ts,k ts=some r/\ts.map (·.1)=fl/\∀ f d t,lkT ts f=some (d,t)->f∈fl/\∃ o,ops[f]? = some o/\o.guard=none/\MK o.op/\o.dst=d/\Kz C Γ.St w o a.eval t
 | [],k,h=>⟨[],h,rfl,λf d t h=>by cases h⟩
 | f::fl,k,h=>by
  simp only [Sd] at h
  split at h
  ·rename_i o ho
   obtain ⟨hg,hop,t,h,hrow⟩:=Xl S h
   obtain ⟨ts,h1,h2,h3⟩:=Se S fl h
   refine ⟨(f,o.dst,t)::ts,h1,by rw [List.map_cons,h2],λf' d' t' hlk=>?_⟩
   unfold lkT at hlk
   cases hb:Nat.beq f' f with
   | true=>
    rw [hb,cond_true] at hlk
    have e:=Option.some.inj hlk
    cases e
    obtain rfl:=Nat.eq_of_beq_eq_true hb
    exact ⟨by simp,o,ho,hg,hop,rfl,hrow⟩
   | false=>
    rw [hb,cond_false] at hlk
    obtain ⟨q1,q2⟩:=h3 f' d' t' hlk
    exact ⟨by simp [q1],q2⟩
  ·cases h
theorem Mr:∀ {l:List Nat},HJ l=true->l.Nodup
 | [],_=>List.nodup_nil
 | a::r,h=>by
  simp only [HJ,Bool.and_eq_true,Bool.not_eq_true'] at h
  exact List.nodup_cons.2 ⟨λhm=>(by rw [Ms.2 hm] at h;cases h.1),Mr h.2⟩
theorem MI {ro:Option Nat} {n id:Nat} {ops:Array Oper} {fl:List Nat} {Q:Exit->Act->World->Prop} {k:St σ->Option R} (A:Ask C I cl yh yv) (hm:C.P.follows .mixedOrders=true) {fd:Option (List Nat × List Nat)} (hok:UG C fd ops fl=true) (hyv:Γ.yv=yv)
  (h:(Am C cl yh ops fd st.hp true (M3 C ops) st λst1=>Sd C ops st1.sl fl λts=>Jj C cl yh ops fd st.hp ts (J3 C ops) { st1 with sl:=Hj ts (J3 C ops) st1.sl } k)=some r) (S:SI C I Γ Φ st a.tmps w)
  (hN:Nxt C I Γ Φ st.hp w a.defers k r (λa' w'=>Q .normal a' w')):(Code.region id ops true).wpIn (C1 ro) n C.P Q a w:=by
 simp only [UG,Bool.and_eq_true] at hok
 obtain ⟨h1,h2,h3,h4,h5,h6,h6n,h7⟩:=hok
 rw [List.all_eq_true] at h2 h4 h6
 have hnd:∀ (j:Nat) (o:Oper) c,ops[j]? = some o->o.op≠.defer c:=λj o c ho e=>by
  have:=h2 o (by simpa using Array.mem_of_getElem? ho)
  rw [e] at this
  cases this
 have hk:∀ j,ops.size<=j->C8 C ops j<=1:=λj hj=>by
  simp only [C8,Array.getElem?_eq_none hj]
  exact Nat.le_refl _
 have hlt:∀ j,j∈M3 C ops\/j∈J3 C ops->j<ops.size:=λj hj=>Gu (h4 j (by
  rcases hj with hj | hj<;>simp [hj]))
 have hap:∀ i∈J3 C ops,∀ f∈fl,i≠f->∀ oi og,ops[i]? = some oi->ops[f]? = some og->(∀ q,oi.dst=some q->q∉Qi og)/\(og.dst≠none->oi.dst≠og.dst):=λi hi f hf hne oi og hoi hog=>by
  unfold Ah6 at h5
  rw [List.all_eq_true] at h5
  have h5:=h5 f hf
  rw [hog] at h5
  simp only [List.all_eq_true,Bool.or_eq_true] at h5
  have h5:=(h5 i hi).resolve_left (λe=>hne (Nat.eq_of_beq_eq_true e))
  rw [hoi] at h5
  dsimp only at h5
  cases hd:oi.dst with
  | none=>exact ⟨λq hq=>(by cases hq),λhn e=>hn e.symm⟩
  | some q=>
   rw [hd] at h5
   simp only [Bool.and_eq_true,Bool.not_eq_true',beq_eq_false_iff_ne,List.contains_eq_mem,decide_eq_false_iff_not] at h5
   exact ⟨λq' hq'=>(by cases hq';exact h5.1),λ_ e=>h5.2 e.symm⟩
 have hC:F9 (C1 ro) n C.P ops (DX Γ w fd) (L2 fd) (C8 C ops) (W9 (C1 ro) n C.P ops (DX Γ w fd) (L2 fd) (C8 C ops) (λa w0=>∀ w,E8 w0 w->Q .normal a w) fl (J3 C ops).length (J3 C ops)) (M3 C ops) a w:=
  R9 A S.hr _ (λi hi=>hlt i (.inl hi)) hyv (λ_ _ h=>h) h S (Stp.refl S.hr) λst1 a1 w1 Γ1 Φ1 k1 k2 k3 k4=>by
   obtain ⟨ts,hk1,hmap,hts⟩:=Se k3 fl k1
   have hrem:Ah (λ_=>none) (J3 C ops)=J3 C ops:=List.filter_eq_self.2 λ_ _=>rfl
   have:=TD (ro:=ro) (n:=n) (all:=ops) (E:=λa w0=>∀ w,E8 w0 w->Q .normal a w) (ts:=ts) (Sb:=Γ1.St) (wb:=w1) (Γ0:=Γ1) (H0:=st1.hp) (w0:=w1) (Φ0:=Φ1) (ds:=a1.defers) (k:=k) (fd:=fd) A S.hr (λst2 a2 w2 Γ2 Φ2 q1 q2 q3 q4 w3 hw3=>by
    obtain ⟨S3,hs3⟩:=q3.like A.hI hw3
    exact hN st2 a2 w3 Γ2 Φ2 q1 (k2.trans (q2.trans hs3)) S3 (q4.trans k4)) _ (J3 C ops) (λ_=>none) (Γ:=Γ1) (Φ:=Φ1) (st:={ st1 with sl:=Hj ts (J3 C ops) st1.sl }) (a:=a1) (w:=w1) (Nat.le_refl _) (J3 C ops).length (by rw [hrem];exact Nat.le_refl _)
    ⟨λi hi=>hlt i (.inr hi),Mr h6n,λf hf d t hlk=>by
     obtain ⟨p1,o,p2,p3,p4,p5,p6⟩:=hts f d t hlk
     exact ⟨Nat.eq_of_beq_eq_true (h6 f p1),⟨o,p2,p3,p4,p5,λ_=>p6⟩,Wr hlk hf⟩,λi hi f hf hne d t hlk=>hap i hi f (hts f d t hlk).1 hne,λq hq=>⟨hq,rfl⟩,λf g x h=>(by cases h),λf f' g x x' h=>(by cases h)⟩
    (k2.yv.trans hyv) hk1 (Wq ts _ k3) (Stp.refl k3.hr) k2 rfl
   rwa [hrem,hmap] at this
 refine wpIn_region_any hm ?_
 have hlen:=Nat.eq_of_beq_eq_true h3
 have e:ops.size=(J3 C ops).length+(M3 C ops).length:=by
  rw [<-hlen,List.length_append]
  omega
 rw [e]
 refine Bd (wr:=λj=>Nat.ble 3 (C8 C ops j)) (Qn:=λa w=>Q .normal a w) (λ_ _ h=>h) _ _ _ _ (Fm (fin:=Cy .any ops (L2 fd) (C8 C ops) fl (J3 C ops).length (J3 C ops)) h1 hnd hk
  (λlisted a w0 hf hd hM w hw=>Ak0 h1 hnd hk _ _ listed a w0 hf hd hM w hw) (M3 C ops) (Array.replicate ((J3 C ops).length+(M3 C ops).length) false) a w (by rw [<-e];exact h7) (λj o ho hj=>?_) hC _ ⟨⟨λ_ _=>rfl,Nat.le_refl _⟩,rfl,rfl,rfl⟩)
 simp only [Array.getD_eq_getD_getElem?,Array.getElem?_replicate] at hj
 split at hj<;>cases hj
theorem A81 {ro:Option Nat} {n id:Nat} {ops:Array Oper} {Q:Exit->Act->World->Prop} {k:St σ->Option R} (A:Ask C I cl yh yv) (hm:C.P.follows .mixedOrders=true) (hok:UE C id ops=true) (hyv:Γ.yv=yv) (h:UD C cl yh id ops true st k=some r) (S:SI C I Γ Φ st a.tmps w)
  (hN:Nxt C I Γ Φ st.hp w a.defers k r (λa' w'=>Q .normal a' w')):(Code.region id ops true).wpIn (C1 ro) n C.P Q a w:=by
 unfold UD at h
 unfold UE at hok
 split at h
 ·rename_i hr
  rw [hr] at hok
  dsimp only at h hok
  split at h
  ·rename_i hrs
   rw [hrs] at hok
   exact Ab6 A hm hok hyv h S hN
  ·rename_i fl hrs
   rw [hrs] at hok
   exact MI A hm hok hyv h S hN
 ·rename_i i hr
  rw [hr] at hok
  split at h
  ·rename_i o _ ho
   refine UH A hm ?_ hyv ho h S hN
   rw [Bool.or_eq_true] at hok
   rcases hok with hok | hok
   ·have:=(Array.getElem?_eq_some_iff.1 ho).1
    have:=Nat.le_of_ble_eq_true hok
    omega
   ·exact hok
  ·cases h
end
end
end Go.Proofs.YtbpokbigoebocaaGreatDoor.E
