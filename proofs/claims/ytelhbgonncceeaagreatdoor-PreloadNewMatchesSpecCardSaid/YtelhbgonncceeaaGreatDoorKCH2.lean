/-
  Parts of the proof, merged by a program of the prover's own; no condition.
-/
import Derived.Test.YtelhbgonncceeaaGreatDoorKCH1
import Derived.RangeFuncLeaves
import Derived.RangeFuncRecord
import Derived.Sort.QuietThIn
import Derived.TacticsIn
namespace Go.Proofs.YtelhbgonncceeaaGreatDoor.E
set_option linter.all false
section
open Go
def Rg:Op->Bool
 | .call c=>match c.callee with
  | .builtin _=>false
  | _=>true
 | _=>false
section
variable {σ R : Type} {r : R} {C : Cfg} {I : σ -> (Nat -> Prop) -> (Nat -> Prop) -> World -> Prop} {Γ : Ctx} {Φ : Nat -> Prop} {st : St σ} {a : Act} {w : World} {cl : D5} {yh : Yh σ} {o : Oper} {k : St σ -> Option R}
def Ay4 (C:Cfg) (I:σ->(Nat->Prop)->(Nat->Prop)->World->Prop) (Γ:Ctx) (Φ:Nat->Prop) (st:St σ) (a:Act) (w:World) (o:Oper) (k:St σ->Option R) (r:R):Prop:=
 ∃ V w' Γ' st',k st'=some r/\((execOp a.eval o).run C.P w = .ok (.value V) w'\/(V=undef/\(execOp a.eval o).run C.P w = .ok .skip w'))/\SI C I Γ' Φ st' (a.put o.dst V).tmps w'/\Stp C Γ st.hp w Φ Γ' st'.hp w' Φ
theorem Stp.lift {Γ':Ctx} {H H':List Blk} {w':World} (h:Stp C Γ H w noΦ Γ' H' w' noΦ) (Φ:Nat->Prop):Stp C Γ H w Φ Γ' H' w' Φ:=
 ⟨h.os,h.tape,h.output,h.size,h.sub,h.stnew,h.own,λ_ h=>.inl h,λg hg hn _=>h.frame g hg hn (λx=>x),h.yv,h.len,h.keep⟩
theorem Ay6.loud (h:Ay6 C I Γ Φ st a w o k r):Ay4 C I Γ Φ st a w o k r:=by
 obtain ⟨V,st',h1,h2,h3,h4⟩:=h
 exact ⟨V,w,Γ,st',h1,.inl (h2 w (Ext.refl w)),h3,h4.lift Φ⟩
theorem SI.after (hI:HI I) (S:SI C I Γ Φ st a.tmps w) {w':World} {Γ':Ctx} {H':List Blk} {sl':List PV} {v:PV} {V:Value} (h:Stp C Γ st.hp w noΦ Γ' H' w' noΦ) (hr:HR Γ' H' w') (hs:SR Γ st.hp w st.sl a.tmps->SR Γ' H' w' sl' a.tmps) (hv:VP Γ' (A2 H') w' v V) (hn:∀ c∈v.nms,c<H'.length) :
  SI C I Γ' Φ { sl:=V8 o.dst v sl',hp:=H',s:=st.s } (a.put o.dst V).tmps w':=
 S.step hI (h.lift Φ) (λg hg=>h.frame g (hI.foot _ _ _ _ S.inv g hg).1 (λb hb=>S.dis b g hb hg) (λx=>x)) hr ((hs S.sr).put (ds:=a.defers) o hv hn)
theorem WV.out {m:Sem Value} {v:PV} {sl':List PV} {H':List Blk} (hI:HI I) (S:SI C I Γ Φ st a.tmps w) (h:WV C Γ st.hp w st.sl a.tmps m v sl' H') (hk:k { sl:=V8 o.dst v sl',hp:=H',s:=st.s } = some r) (he:execOp a.eval o=(do pure (.value (<-m)))):Ay4 C I Γ Φ st a w o k r:=by
 obtain ⟨V,w',Γ',h1,h2,h3,h4,h5,h6⟩:=h
 refine ⟨V,w',Γ',_,hk,.inl ?_,S.after hI h2 h3 h4 h5 h6,h2.lift Φ⟩
 simp_all
theorem WV.outU {m:Sem Unit} {v:PV} {sl':List PV} {H':List Blk} (hI:HI I) (S:SI C I Γ Φ st a.tmps w) (h:WV C Γ st.hp w st.sl a.tmps (do m;pure undef) v sl' H') (hk:k { sl:=V8 o.dst v sl',hp:=H',s:=st.s } = some r) (he:execOp a.eval o=(do m;pure .skip)):Ay4 C I Γ Φ st a w o k r:=by
 obtain ⟨V,w',Γ',h1,h2,h3,h4,h5,h6⟩:=h
 have key:V=undef/\m.run C.P w = .ok () w':=by
  simp only [Sem.run_bind] at h1
  cases hm:m.run C.P w with
  | ok u w1=>rw [hm] at h1;simp at h1;exact ⟨h1.1.symm,by rw [h1.2]⟩
  | halt x w1=>rw [hm] at h1;simp [Result.andThen] at h1
 refine ⟨V,w',Γ',_,hk,.inr ⟨key.1,?_⟩,S.after hI h2 h3 h4 h5 h6,h2.lift Φ⟩
 simp_all
theorem KU (hI:HI I) (hq:Rg o.op=false) (h:opK C cl yh o st k=some r) (S:SI C I Γ Φ st a.tmps w):Ay4 C I Γ Φ st a w o k r:=by
 by_cases hqq:J9 C o.op=true
 ·exact (Kx hqq h S).loud
 have h0:=h
 unfold opK at h
 dsimp only at h
 split at h
 ·rename_i hop;exact absurd (by rw [hop];rfl) hqq
 ·rename_i hop;exact absurd (by rw [hop];rfl) hqq
 ·rename_i hop;exact absurd (by rw [hop];rfl) hqq
 ·rename_i e hop
  by_cases hok:(C.ti e).ok=true
  ·obtain ⟨i,z,hi,hz,hsz,hCR⟩:=Ie (Γ:=Γ) (sh:=A2 st.hp) (w:=w) hok
   obtain ⟨v,H',hk,hv⟩:=Wf (V:=z) (sl:=st.sl) (tmps:=a.tmps) (m:=Instr.alloc e true (.tuple #[])) S.hr h hCR (by rw [Qd];simp) (by simp [Instr.alloc,zeroValue,typeInfo,hi,hz,newVar,newRow])
   exact hv.out hI S hk (by simp only [execOp,hop])
  ·simp [Ub,hok] at h
 ·rename_i e x hop
  split at h
  ·rename_i hlen
   by_cases hok:(C.ti e).ok=true
   ·obtain ⟨i,hi,hsz,hpos⟩:=I7 hok
    have hne:(opnd C st.sl x).cells≠[]:=by intro e;rw [e] at hlen;simp at hlen;omega
    obtain ⟨v,H',hk,hv⟩:=Wf (V:=a.eval x) (sl:=st.sl) (tmps:=a.tmps) (m:=Instr.box e (a.eval x)) S.hr h ((S.opnd x).1.cells' hne) (λc hc=>(S.opnd x).2 c (PV.cells_nms c hc)) (by simp [Instr.box,newVar,newRow])
    exact hv.out hI S hk (by simp only [execOp,hop])
   ·simp [Ub,hok] at h
  ·cases h
 ·rename_i hop;exact absurd (by rw [hop];rfl) hqq
 ·rename_i t len parts hop
  obtain ⟨h1,h2⟩:=S.parts parts.toList
  obtain ⟨v,H',hk,hv,_⟩:=Eb (ps:=parts.map λ(i,x)=>(i,a.eval x)) (sl:=st.sl) (tmps:=a.tmps) S.hr h (by rw [Array.toList_map];exact h1)
  exact hv.out hI S hk (by simp only [execOp,hop])
 ·rename_i hop;exact absurd (by rw [hop];rfl) hqq
 ·rename_i t x y hop
  obtain ⟨H',hk,hv⟩:=HV (sl:=st.sl) (tmps:=a.tmps) S.hr h (S.opnd x).1 (S.opnd y).1 (S.opnd y).2
  exact hv.outU hI S hk (by simp only [execOp,hop])
 ·rename_i hop;exact absurd (by rw [hop];rfl) hqq
 ·rename_i hop;exact absurd (by rw [hop];rfl) hqq
 ·rename_i hop;exact absurd (by rw [hop];rfl) hqq
 ·rename_i src dst x hop
  split at h
  ·obtain ⟨v,hk,hv⟩:=FE (sl:=st.sl) (tmps:=a.tmps) S.hr h (S.opnd x).1
   exact hv.out hI S hk (by simp only [execOp,hop])
  ·rename_i hne
   refine absurd ?_ hqq
   rw [hop]
   simp only [J9]
   done
 ·rename_i hop;exact absurd (by rw [hop];rfl) hqq
 ·rename_i t l c hop
  obtain ⟨v,H',hk,hv⟩:=Sb (sl:=st.sl) (tmps:=a.tmps) S.hr h (S.opnd l).1 (S.opnd c).1
  exact hv.out hI S hk (by simp only [execOp,hop])
 ·rename_i hop;exact absurd (by rw [hop];rfl) hqq
 ·rename_i hop;exact absurd (by rw [hop];rfl) hqq
 ·rename_i hop;exact absurd (by rw [hop];rfl) hqq
 ·rename_i hop;exact absurd (by rw [hop];rfl) hqq
 ·rename_i hop;exact absurd (by rw [hop];rfl) hqq
 ·rename_i t x hop
  split at h
  ·rename_i l hx
   split at h
   ·rename_i hsh
    have hv:=(S.opnd x).1
    rw [hx] at hv
    obtain ⟨s,e,rfl⟩:=hv.inv_str
    have:=As3 (C:=C) (s:=s) (sl:=st.sl) (tmps:=a.tmps) S.hr (Fi hsh)
    exact this.out hI S h (by simp only [execOp,hop,e])
   ·cases h
  ·cases h
 ·rename_i it hop
  split at h
  ·rename_i b hx
   have hv:=(S.opnd it).1
   rw [hx] at hv
   split at h
   ·rename_i l p hb
    by_cases hp:p<l.length
    ·simp only [hp,decide_true,Fk,cond_true] at h
     have:=A56 (C:=C) (ty:=o.type) (sl:=st.sl) (tmps:=a.tmps) S.hr hv hb hp
     exact this.out hI S h (by simp only [execOp,hop])
    ·simp only [hp,decide_false,Fk,cond_false] at h
     have:=KR (C:=C) (ty:=o.type) S.hr hv hb hp
     exact (this.out S h (by simp only [execOp,hop])).loud
   ·cases h
  ·cases h
 ·rename_i hop;exact absurd (by rw [hop];rfl) hqq
 ·rename_i c hop
  split at h
  ·rename_i b hcb
   unfold Au at h
   dsimp only at h
   split at h
   ·exact absurd (by rw [hop];simp [J9,hcb]) hqq
   ·rename_i t u s x hts hargs
    obtain ⟨s0,x0,hx0,rfl,rfl⟩:=WG hargs
    have hts':c.argTypes=[t,u].toArray:=by rw [<-hts]
    split at h
    ·rename_i hu
     obtain ⟨v,sl',H',hk,hv⟩:=Lk (ty:=o.type) (tmps:=a.tmps) S.hr hu h (S.opnd s0).1 (S.opnd x0).1
     refine hv.out hI S hk ?_
     obtain ⟨cs,he⟩:=T0 (ρ:=a.eval) hop hcb
     rw [he,hx0,hts']
     simp [builtin]
    grind
   ·rename_i t u d x hts hargs
    obtain ⟨s0,x0,hx0,rfl,rfl⟩:=WG hargs
    have hts':c.argTypes=[t,u].toArray:=by rw [<-hts]
    obtain ⟨v,H',hk,hv⟩:=JH (u:=u) (ty:=o.type) (sl:=st.sl) (tmps:=a.tmps) S.hr h (S.opnd s0).1 (S.opnd x0).1
    refine hv.out hI S hk ?_
    obtain ⟨cs,he⟩:=T0 (ρ:=a.eval) hop hcb
    rw [he,hx0,hts']
    simp [builtin]
   ·exact absurd (by rw [hop];simp [J9,hcb]) hqq
   ·exact absurd (by rw [hop];simp [J9,hcb]) hqq
   ·cases h
  ·rename_i hcb;rw [hop] at hq;simp [Rg,hcb] at hq
  ·cases h
 ·cases h
end
theorem Si (f:Nat->Nat) (l:List PV):rnL f l=l.map (PV.rn f):=by
 induction l with
 | nil=>rfl
 | cons v r ih=>simp [rnL,ih]
theorem U6 (H:List Blk) (l:List PV):I9 H l=l.map (PV.snap H):=by
 induction l with
 | nil=>rfl
 | cons v r ih=>simp [I9,ih]
theorem Cz {l:List PV} (h:Je l=true):∀ v∈l,v.clean=true:=by
 induction l with
 | nil=>simp
 | cons a l ih=>
  simp only [Je,Bool.and_eq_true] at h
  grind
mutual
theorem PV.rn_nms (f:Nat->Nat):∀ v:PV,(v.rn f).nms=v.nms.map f
 | .s _=>rfl
 | .nsl=>rfl
 | .fl b=>rfl
 | .vw b _ _=>rfl
 | .ptr b _ _=>rfl
 | .fnr _ x y=>by simp only [PV.rn,PV.nms,List.map_append,Ei f x,Ei f y]
 | .it b=>rfl
 | .yd=>rfl
 | .agg l=>by simp only [PV.rn,PV.nms,Ei f l]
 | .tup l=>by simp only [PV.rn,PV.nms,Ei f l]
 | .bad=>rfl
theorem Ei (f:Nat->Nat):∀ l:List PV,B8 (rnL f l)=(B8 l).map f
 | []=>rfl
 | v::r=>by simp only [rnL,B8,List.map_append,PV.rn_nms f v,Ei f r]
end
theorem Blk.rn_nms (f:Nat->Nat) (x:Blk):(x.rn f).nms=x.nms.map f:=by
 cases x<;>simp [Blk.rn,Blk.nms,Ei]
theorem Blk.rn_shp (f:Nat->Nat) (x:Blk):(x.rn f).shp=x.shp:=by cases x<;>rfl
theorem VS.clean {St St':Nat->Prop} {w w':World} {v:SV} {V:Value} (h:VS St w v V) (hc:v.plain=true):VS St' w' v V:=by
 cases h with
 | bool=>exact .bool _
 | int=>exact .int _ _
 | str=>exact .str _
 | nilp=>exact .nilp
 | nilm=>exact .nilm
 | nilf=>exact .nilf
 | nil=>simp [SV.plain] at hc
 | emp=>simp [SV.plain] at hc
 | sl=>simp [SV.plain] at hc
 | sp=>simp [SV.plain] at hc
 | fn=>simp [SV.plain] at hc
theorem VP.rn {f:Nat->Nat} {Γ Γ':Ctx} {sh sh':Nat->Option Shp} {w:World} (hyv:Γ'.yv = Γ.yv) {v:PV} {V:Value} (h:VP Γ sh w v V) :
  (v.clean=true\/∀ g,Γ.St g->Γ'.St g)->(∀ b∈v.nms,Γ'.nm (f b) = Γ.nm b/\sh' (f b)=sh b)->VP Γ' sh' w (v.rn f) V:=by
 induction h with
 | s v V h=>
  intro hc _
  rcases hc with hc | hc
  ·refine .s _ _ (h.clean ?_)
   cases v<;>simp_all [PV.clean,SV.plain]
  ·exact .s _ _ (h.mono (λ_ _=>rfl) hc)
 | nsl=>intro _ _;exact .nsl
 | flv b e sz h=>intro _ hn;exact .flv _ e sz (by rw [(hn b (by simp [PV.nms])).2];exact h)
 | fl b g v e sz n cap h hv hg hcap hm hs=>
  intro _ hn
  have o:=hn b (by simp [PV.nms])
  exact .fl _ g v e sz n cap (by rw [o.2];exact h) hv (by rw [o.1];exact hg) hcap hm hs
 | vwv b e sz i h=>intro _ hn;exact .vwv _ e sz i (by rw [(hn b (by simp [PV.nms])).2];exact h)
 | vw b i n g a cap v e sz m h hv hg ha hi hcap hm=>
  intro _ hn
  have o:=hn b (by simp [PV.nms])
  exact .vw _ i n g a cap v e sz m (by rw [o.2];exact h) hv (by rw [o.1];exact hg) ha hi hcap hm
 | ptrA b i off g v e sz n h hg=>
  intro _ hn
  have o:=hn b (by simp [PV.nms])
  exact .ptrA _ i off g v e sz n (by rw [o.2];exact h) (by rw [o.1];exact hg)
 | ptrB b off g h hg=>
  intro _ hn
  have o:=hn b (by simp [PV.nms])
  exact .ptrB _ off g (by rw [o.2];exact h) (by rw [o.1];exact hg)
 | fnr g x y A B As Bs hf hA hB ha hb hx hy ihx ihy=>
  intro hc hn
  simp only [PV.rn,Si]
  refine .fnr g _ _ A B As Bs hf (by simpa using hA) (by simpa using hB) (λj h=>ha j (by simpa using h)) (λj h=>hb j (by simpa using h)) (λj h=>?_) (λj h=>?_)
  ·have hj:j<x.length:=by simpa using h
   rw [List.getElem_map]
   refine ihx j hj (hc.imp (λe=>?_) id) (λb hb=>hn b (by simp only [PV.nms,List.mem_append];exact .inl (B6.2 ⟨j,hj,hb⟩)))
   simp only [PV.clean,Bool.and_eq_true] at e
   exact Cz e.1 _ (List.getElem_mem hj)
  ·have hj:j<y.length:=by simpa using h
   rw [List.getElem_map]
   refine ihy j hj (hc.imp (λe=>?_) id) (λb hb=>hn b (by simp only [PV.nms,List.mem_append];exact .inr (B6.2 ⟨j,hj,hb⟩)))
   simp only [PV.clean,Bool.and_eq_true] at e
   exact Cz e.2 _ (List.getElem_mem hj)
 | it b g h hg=>
  intro _ hn
  have o:=hn b (by simp [PV.nms])
  exact .it _ g (by rw [o.2];exact h) (by rw [o.1];exact hg)
 | yd=>intro _ _;rw [<-hyv];exact .yd
 | agg l A As hA ha hl ih=>
  intro hc hn
  simp only [PV.rn,Si]
  refine .agg _ A As (by simpa using hA) (λj h=>ha j (by simpa using h)) (λj h=>?_)
  have hj:j<l.length:=by simpa using h
  rw [List.getElem_map]
  refine ih j hj (hc.imp (λe=>?_) id) (λb hb=>hn b (by simp only [PV.nms];exact B6.2 ⟨j,hj,hb⟩))
  simp only [PV.clean] at e
  exact Cz e _ (List.getElem_mem hj)
 | tup l A As hA ha hl ih=>
  intro hc hn
  simp only [PV.rn,Si]
  refine .tup _ A As (by simpa using hA) (λj h=>ha j (by simpa using h)) (λj h=>?_)
  have hj:j<l.length:=by simpa using h
  rw [List.getElem_map]
  refine ih j hj (hc.imp (λe=>?_) id) (λb hb=>hn b (by simp only [PV.nms];exact B6.2 ⟨j,hj,hb⟩))
  simp only [PV.clean] at e
  exact Cz e _ (List.getElem_mem hj)
 | bad V=>intro _ _;exact .bad V
theorem BR.rn {f:Nat->Nat} {Γ Γ':Ctx} {sh sh':Nat->Option Shp} {w:World} (hyv:Γ'.yv = Γ.yv) {b b':Nat} {x:Blk} (h:BR Γ sh w b x) (hc:x.clean=true\/∀ g,Γ.St g->Γ'.St g) (hb:Γ'.nm b' = Γ.nm b)
  (hn:∀ c∈x.nms,Γ'.nm (f c) = Γ.nm c/\sh' (f c)=sh c):BR Γ' sh' w b' (x.rn f):=by
 cases x with
 | arr v e sz els=>
  rcases h with h | ⟨hn,g,cur,h1,h2,h3,h4,h5⟩
  ·exact .inl h
  ·refine .inr ⟨hn,g,cur,by rw [hb];exact h1,h2,h3,h4,λi hi j hj=>?_⟩
   obtain ⟨V,e1,e2⟩:=h5 i hi j hj
   refine ⟨V,e1,?_⟩
   rcases hc with hc | hc
   ·simp only [Blk.clean,List.all_eq_true] at hc
    exact e2.clean (hc _ (List.getElem_mem hi) _ (List.getElem_mem hj))
   ·exact e2.mono (λ_ _=>rfl) hc
 | box cells=>
  obtain ⟨g,cur,e,h1,h2,h3,h4⟩:=h
  simp only [Blk.rn,Si]
  refine ⟨g,cur,e,by rw [hb];exact h1,h2,by simpa using h3,λj hj=>?_⟩
  have hj':j<cells.length:=by simpa using hj
  obtain ⟨V,e1,e2⟩:=h4 j hj'
  rw [List.getElem_map]
  refine ⟨V,e1,e2.rn hyv (hc.imp (λe=>?_) id) (λc hc=>hn c (by simp only [Blk.nms];exact B6.2 ⟨j,hj',hc⟩))⟩
  simp only [Blk.clean] at e
  exact Cz e _ (List.getElem_mem hj')
 | iter s p=>
  obtain ⟨g,s',h1,h2,h3⟩:=h
  exact ⟨g,s',by rw [hb];exact h1,h2,h3⟩
 | dead=>trivial
theorem RH {l:List Nat} {b c:Nat}:c∈Bh l b↔c∈l\/c=b:=by
 unfold Bh
 split
 ·rename_i h
  have hb:b∈l:=by simpa using h
  exact ⟨.inl,λh=>h.elim id (λe=>e ▸ hb)⟩
 ·simp
theorem Di:∀ (xs acc:List Nat) (c:Nat),c∈xs.foldl Bh acc↔c∈acc\/c∈xs
 | [],acc,c=>by simp
 | x::xs,acc,c=>by rw [List.foldl_cons,Di xs,RH,List.mem_cons,or_assoc]
theorem EX {l:List Nat} {b:Nat} (h:l.Nodup):(Bh l b).Nodup:=by
 unfold Bh
 split
 ·exact h
 ·rename_i hb
  rw [List.nodup_append]
  refine ⟨h,by simp,λx hx y hy e=>?_⟩
  simp at hy
  subst hy
  subst e
  simp at hb
  exact hb hx
theorem Gr:∀ (xs acc:List Nat),acc.Nodup->(xs.foldl Bh acc).Nodup
 | [],acc,h=>h
 | x::xs,acc,h=>by rw [List.foldl_cons];exact Gr xs _ (EX h)
theorem Hy (H:List Blk):∀ (l acc:List Nat),acc.Nodup->(l.foldl (λacc b=>((H.getD b .dead).nms).foldl Bh acc) acc).Nodup
 | [],acc,h=>h
 | x::l,acc,h=>by rw [List.foldl_cons];exact Hy H l _ (Gr _ _ h)
theorem Pu (H:List Blk):∀ (l acc:List Nat) c,c∈acc->c∈l.foldl (λacc b=>((H.getD b .dead).nms).foldl Bh acc) acc
 | [],acc,c,h=>h
 | x::l,acc,c,h=>by rw [List.foldl_cons];exact Pu H l _ c ((Di _ _ _).2 (.inl h))
theorem MU (H:List Blk) (p:Nat->Prop) (hp:∀ b,p b->∀ c∈(H.getD b .dead).nms,p c):∀ (l acc:List Nat),(∀ c∈acc,p c)->(∀ c∈l,p c)->∀ c∈l.foldl (λacc b=>((H.getD b .dead).nms).foldl Bh acc) acc,p c
 | [],acc,h,_=>h
 | x::l,acc,h,hl=>by
  rw [List.foldl_cons]
  refine MU H p hp l _ (λc hc=>?_) (λc hc=>hl c (by simp [hc]))
  rcases (Di _ _ _).1 hc with hc | hc
  ·exact h c hc
  ·exact hp x (hl x (by simp)) c hc
theorem To (H:List Blk) (l:List Nat):(Z8 H l).Nodup:=
 Hy H _ _ (Hy H _ _ (Hy H _ _ (Gr _ _ List.nodup_nil)))
theorem BU (H:List Blk) (l:List Nat):∀ c∈l,c∈Z8 H l:=λc hc=>
 Pu H _ _ c (Pu H _ _ c (Pu H _ _ c ((Di _ _ _).2 (.inr hc))))
theorem BT (H:List Blk) (l:List Nat) (p:Nat->Prop) (hp:∀ b,p b->∀ c∈(H.getD b .dead).nms,p c) (hl:∀ c∈l,p c):∀ c∈Z8 H l,p c:=by
 have h0:∀ c∈l.foldl Bh [],p c:=λc hc=>by
  rcases (Di _ _ _).1 hc with h | h
  ·simp at h
  ·exact hl c h
 have step:∀ m,(∀ c∈m,p c)->∀ c∈HD H m,p c:=λm hm=>MU H p hp m m hm hm
 exact step _ (step _ (step _ h0))
theorem Zn {H:List Blk} {ns:List Nat} (h:Aw H ns=true):∀ b∈ns,∀ c∈(H.getD b .dead).nms,c∈ns:=by
 intro b hb c hc
 simp only [Aw,List.all_eq_true] at h
 simpa using h b hb c hc
theorem V5 {ns:List Nat} {b:Nat} (h:b∈ns):∃ hlt:F0 ns b<ns.length,ns[F0 ns b]=b:=by
 have hlt:ns.idxOf b<ns.length:=List.idxOf_lt_length_of_mem h
 exact ⟨hlt,List.getElem_idxOf hlt⟩
theorem Hh {Γ:Ctx} {sh:Nat->Option Shp} {w:World}:∀ (ks:List Nat) (sl:List PV),(I3 ks sl).length=sl.length/\(∀ c∈B8 (I3 ks sl),c∉ks/\c∈B8 sl)/\
  ∀ i (h:i<(I3 ks sl).length) (h':i<sl.length) V,VP Γ sh w (sl[i]) V->VP Γ sh w ((I3 ks sl)[i]) V
 | [],sl=>⟨rfl,λc hc=>⟨by simp,hc⟩,λi h h' V hv=>hv⟩
 | b::ks,sl=>by
  obtain ⟨h1,h2,h3⟩:=Hh (Γ:=Γ) (sh:=sh) (w:=w) ks (Q6 b sl)
  have hl:(Q6 b sl).length=sl.length:=by rw [Y4];simp
  have e:I3 (b::ks) sl=I3 ks (Q6 b sl):=rfl
  refine ⟨by rw [e,h1,hl],λc hc=>?_,λi h h' V hv=>?_⟩
  ·rw [e] at hc
   obtain ⟨q1,q2⟩:=h2 c hc
   refine ⟨?_,W9 b sl c q2⟩
   rintro hcc
   rcases List.mem_cons.1 hcc with rfl | hcc
   ·exact N6 c sl q2
   ·exact q1 hcc
  ·simp only [e]
   refine h3 i (by rw [e] at h;exact h) (by rw [hl];exact h') V ?_
   have e3:(Q6 b sl)[i]'(by rw [hl];exact h')=(sl[i]).kill b:=by simp [Y4]
   rw [e3]
   exact hv.kill b
theorem Jn {Γ:Ctx} {sh:Nat->Option Shp} {w:World}:∀ (ks:List Nat) (H:List Blk),(N2 ks H).length=H.length/\(∀ b,A2 (N2 ks H) b=A2 H b)/\
  ∀ i (h:i<(N2 ks H).length) (h':i<H.length),(∀ c∈((N2 ks H)[i]).nms,c∉ks/\c∈(H[i]).nms)/\∀ b,BR Γ sh w b (H[i])->BR Γ sh w b ((N2 ks H)[i])
 | [],H=>⟨rfl,λ_=>rfl,λi h h'=>⟨λc hc=>⟨by simp,hc⟩,λb hb=>hb⟩⟩
 | k::ks,H=>by
  obtain ⟨h1,h2,h3⟩:=Jn (Γ:=Γ) (sh:=sh) (w:=w) ks (H.map (Blk.kill k))
  have hl:(H.map (Blk.kill k)).length=H.length:=by simp
  have e:N2 (k::ks) H=N2 ks (H.map (Blk.kill k)):=rfl
  refine ⟨by rw [e,h1,hl],λb=>by rw [e,h2,Yx],λi h h'=>?_⟩
  have h'':i<(H.map (Blk.kill k)).length:=by rw [hl];exact h'
  obtain ⟨q1,q2⟩:=h3 i (by rw [e] at h;exact h) h''
  have e3:(H.map (Blk.kill k))[i]=(H[i]).kill k:=by simp
  refine ⟨λc hc=>?_,λb hb=>?_⟩
  ·simp only [e] at hc
   obtain ⟨r1,r2⟩:=q1 c hc
   rw [e3] at r2
   obtain ⟨r3,r4⟩:=Blk.kill_nms' c r2
   refine ⟨?_,r4⟩
   rintro hcc
   rcases List.mem_cons.1 hcc with rfl | hcc
   ·exact r3 rfl
   ·exact r1 hcc
  ·simp only [e]
   exact q2 b (by rw [e3];exact hb.kill)
theorem Ep:∀ (ns:List Nat) (xs H:List Blk),ns.Nodup->xs.length=ns.length->(∀ b∈ns,b<H.length)->(W3 H ns xs).length=H.length/\
  ∀ b,(W3 H ns xs)[b]? = if b∈ns then xs[ns.idxOf b]? else H[b]?
 | [],xs,H,_,hl,_=>by cases xs<;>simp [W3]
 | n::ns,[],H,_,hl,_=>by simp at hl
 | n::ns,x::xs,H,hd,hl,hlt=>by
  obtain ⟨h1,h2⟩:=Ep ns xs (H.set n x) (List.nodup_cons.1 hd).2 (by simpa using hl) (λb hb=>by simpa using hlt b (by simp [hb]))
  have e:W3 H (n::ns) (x::xs)=W3 (H.set n x) ns xs:=rfl
  refine ⟨by rw [e,h1];simp,λb=>?_⟩
  rw [e,h2]
  have hn:n∉ns:=(List.nodup_cons.1 hd).1
  by_cases hb:b∈ns
  ·have hbn:n≠b:=by rintro rfl;exact hn hb
   rw [if_pos hb,if_pos (by simp [hb]),List.idxOf_cons]
   have:(n==b)=false:=by simpa using hbn
   simp [this]
  ·rw [if_neg hb,List.getElem?_set]
   by_cases e:n=b
   ·subst e
    rw [if_pos rfl,if_pos (hlt n (by simp)),if_pos (by simp)]
    simp
   ·rw [if_neg e,if_neg (by simp only [List.mem_cons,not_or];exact ⟨λh=>e h.symm,hb⟩)]
def E5 (ro:Option Nat):Fence:={ Fence.wide with round:=ro }
def K8 (P:Program) (res:Result Next) (R:Value->World->Prop):Prop:=
 ∀ (ro:Option Nat) (n:Nat) (o:Oper) (a:Act) (next:Act->World->Prop) (Q:Exit->Act->World->Prop),(∀ V w',R V w'->next (a.put o.dst V) w')->o.uponIn (E5 ro) n P a next Q res
theorem K8.mono {P:Program} {res:Result Next} {R R':Value->World->Prop} (h:K8 P res R) (hr:∀ V w',R V w'->R' V w'):K8 P res R':=
 λro n o a next Q hn=>h ro n o a next Q λV w' hR=>hn V w' (hr V w' hR)
def X7 {σ:Type} (C:Cfg) (I:σ->(Nat->Prop)->(Nat->Prop)->World->Prop) (Γ:Ctx) (H:List Blk) (w:World) (Φ:Nat->Prop) (ret:PV) (Hc:List Blk) (s':σ) (V:Value) (w':World):Prop:=
 ∃ Γ' Φ',Stp C Γ H w Φ Γ' Hc w' Φ'/\HR Γ' Hc w'/\VP Γ' (A2 Hc) w' ret V/\(∀ c∈ret.nms,c<Hc.length)/\I s' Γ'.St Φ' w'/\∀ b g,Γ'.nm b=some g->¬ Φ' g
def OF {σ:Type} (P:Program) (I:σ->(Nat->Prop)->(Nat->Prop)->World->Prop) (yh:Yh σ) (yv:Value):Prop:=
 ∀ args s b s',yh args s=some (b,s')->Fo args=true->∀ Γ Φ w Vs,I s Γ.St Φ w->(∀ g,Γ.St g->g<w.heap.size)->CR Γ (λ_=>none) w args Vs->
  K8 P ((do let d <-Deferred.ofValue yv Vs;invoke d.target d.args).run P w) λV w'=>V = .bool b/\∃ St' Φ',I s' St' Φ' w'/\(∀ g,Γ.St g->St' g)/\(∀ g,St' g->Γ.St g\/w.heap.size<=g)/\(∀ g,Φ' g->Φ g\/w.heap.size<=g)/\
   (∀ g,g<w.heap.size->¬ Φ g->w'.heap[g]? = w.heap[g]?)/\w.heap.size<=w'.heap.size/\w'.os=w.os/\w'.tape=w.tape/\w'.output=w.output/\∀ g,St' g->g<w'.heap.size
def X8 (C:Cfg) (cl:D5):Prop:=
 ∀ (σ:Type) (I:σ->(Nat->Prop)->(Nat->Prop)->World->Prop) (yh:Yh σ) (yv:Value),HI I->OF C.P I yh yv->
  ∀ g args H s ret Hc s',cl σ yh g args H s=some (ret,Hc,s')->∀ Γ Φ w Vs,Γ.yv=yv->HR Γ H w->GOK C Γ.St w->I s Γ.St Φ w->(∀ b g,Γ.nm b=some g->¬ Φ g)->CR Γ (A2 H) w args Vs->(∀ c∈B8 args,c<H.length)->
   K8 C.P ((callFunc g Vs).run C.P w) (X7 C I Γ H w Φ ret Hc s')
def I0:Unit->(Nat->Prop)->(Nat->Prop)->World->Prop:=λ_ _ Φ _=>∀ g,¬ Φ g
def Bm7 (C:Cfg):Prop:=
 ∀ g pf args ret Hc,C.X g=some pf->G1 (pf args)=some (ret,Hc)->∀ Γ w Vs,(∀ b,Γ.nm b=none)->HR Γ [] w->GOK C Γ.St w->CR Γ (A2 []) w args Vs->
  K8 C.P ((callFunc g Vs).run C.P w) (X7 C I0 Γ [] w noΦ ret Hc ())
def clY (C:Cfg):D5:=λ_ _ g args H s=>match C.Y g with
 | some pf=>match G1 (pf args H) with
  | some (r,h)=>some (r,h,s)
  | none=>none
 | none=>none
def Q3 {σ:Type} (yh:Yh σ):List (List PV)->σ->Option σ
 | [],s=>some s
 | x::xs,s=>match yh x s with
  | some (true,s')=>Q3 yh xs s'
  | some (false,s')=>some s'
  | none=>none
def clS (C:Cfg):D5:=λ_ yh g args H s=>match C.S g with
 | some pf=>if H.all Jl=true then match pf args H with
  | some (true,L)=>match Q3 yh L s with
   | some s'=>some (.tup [],H.map Fs,s')
   | none=>none
  | _=>none
  else none
 | none=>none
def J2 (w w':World):Prop:=(Ext w w'/\w.heap.size<=w'.heap.size)/\w'.os=w.os/\w'.tape=w.tape/\w'.output=w.output
def IR (P:Program) (g:Nat) (pf:SV->List (List SV)->Bool × List (List SV)):Prop:=
 ∀ (St:Nat->Prop) (w:World) (x:SV) (X:Value) (els:List (List SV)),VS St w x X->(pf x els).1=true->
  (els=[]->K8 P ((callFunc g #[.slice none 0 0,X]).run P w) λV w'=>V=undef/\(pf x els).2=[]/\J2 w w')/\
  ∀ g0 cur e sz cap,w.heap[g0]? = some (.cells cur e (0,0))->cur.size=cap*sz->els.length<=cap->cap<=maxLen->¬ St g0->(∀ g,St g->g<w.heap.size)->
   (∀ i (h:i<els.length),(els[i]).length=sz)->(∀ i (h:i<els.length) j (h':j<(els[i]).length),∃ V,cur[i*sz+j]? = some V/\VS St w (els[i][j]) V)->
   K8 P ((callFunc g #[.slice (some ⟨g0,0,none⟩) els.length cap,X]).run P w) λV w'=>V=undef/\(pf x els).2.length=els.length/\
    ∃ w1 cur',w1.heap[g0]? = some (.cells cur' e (0,0))/\cur'.size=cur.size/\(∀ k,k≠g0->w1.heap[k]? = w.heap[k]?)/\w1.heap.size=w.heap.size/\w1.os=w.os/\w1.tape=w.tape/\w1.output=w.output/\
     (∀ i (h:i<(pf x els).2.length),((pf x els).2[i]).length=sz)/\(∀ i (h:i<(pf x els).2.length) j (h':j<((pf x els).2[i]).length),∃ V,cur'[i*sz+j]? = some V/\VS St w1 ((pf x els).2[i][j]) V)/\J2 w1 w'
structure XOK (C:Cfg):Prop where
 x:Bm7 C
 y:X8 C (clY C)
 s:X8 C (clS C)
 z:∀ g pf,C.Z g=some pf->IR C.P g pf
section
variable {Γ : Ctx} {H : List Blk} {w : World} {C : Cfg}
def Ctx.all (Γ:Ctx):Ctx:={ Γ with St:=λg=>Γ.St g\/∃ b,Γ.nm b=some g }
theorem HJ {St':Nat->Prop} {b e sz i n:Nat} {v:Bool} {els:List (List SV)} {a:Addr} {cap g:Nat} (hH:HR Γ H w) (hb:H[b]? = some (.arr v e sz els)) (hne:¬ (v=true/\els=[])) (hg:Γ.nm b=some g) (hi:i+n<=els.length) (ha:n≠0->a=⟨g,i*sz,none⟩) (hcap:n<=cap) (hm:cap<=maxLen) (hs':∀ g,Γ.St g->St' g) (hg':St' g) :
  VS St' w (.sl false false sz ((els.drop i).take n)) (.slice (some a) n cap):=by
 by_cases hn:n=0
 ·subst hn
  rw [List.take_zero]
  exact .emp false sz a cap (by simp) hm
 ·rw [ha hn]
  obtain ⟨g',cur,h1,h2,h3,h4,h5⟩:=hH.arr' hb hne
  rw [hg] at h1;cases h1
  have hlen:((els.drop i).take n).length=n:=by simp;omega
  have hget:∀ k (hk:k<((els.drop i).take n).length),∃ h':i+k<els.length,((els.drop i).take n)[k]=els[i+k]:=λk hk=>by grind
  have hcell:∀ k,k<cur.size->w.cell? ⟨g,k,none⟩=cur[k]?:=λk _=>cell_of_row w g k cur e (0,0) h2
  refine .sl false _ g (i*sz) n cap sz (λk j=>cur.getD (i*sz+k*sz+j) undef) hlen.symm hcap hm (by simp) hg' (λk hk=>?_) (λk hk j hj=>?_) (λk hk j hj=>?_)
  ·obtain ⟨h',e⟩:=hget k hk;rw [e];exact h4 _ h'
  ·obtain ⟨h',e⟩:=hget k hk
   obtain ⟨V,e1,e2⟩:=h5 _ h' j (by rw [<-e];exact hj)
   have e3:cur[i*sz+k*sz+j]? = some V:=by rw [<-e1,Nat.add_mul]
   rw [cell_of_row w g _ cur _ (0,0) h2,e3]
   simp [Array.getD_eq_getD_getElem?,e3]
  ·obtain ⟨h',e⟩:=hget k hk
   obtain ⟨V,e1,e2⟩:=h5 _ h' j (by rw [<-e];exact hj)
   have e3:cur[i*sz+k*sz+j]? = some V:=by rw [<-e1,Nat.add_mul]
   simp only [e,Array.getD_eq_getD_getElem?,e3]
   exact e2.mono (λ_ _=>rfl) hs'
theorem VP.toAll {sh:Nat->Option Shp} {v:PV} {V:Value} (h:VP Γ sh w v V):VP Γ.all sh w v V:=
 h.mono (Γ':=Γ.all) (ok:=λ_=>True) ⟨λ_ _=>rfl,λ_ h=>Or.inl h,λ_ _=>rfl,λ_ _=>rfl,λ_ _ _ _=>rfl,rfl⟩ (λ_ _=>trivial)
theorem VP.snap (hH:HR Γ H w) {v:PV} {V:Value} (h:VP Γ (A2 H) w v V):VP Γ.all (A2 H) w (v.snap H) V:=by
 generalize hsh:A2 H=sh at h
 induction h with
 | s v V h=>exact (VP.s v V h).toAll
 | nsl=>exact .s _ _ (.nil _ _)
 | flv b e sz h=>
  subst hsh
  obtain ⟨x,hx,hs⟩:∃ x,H[b]? = some x/\x.shp = .arr true e sz 0:=by simpa [A2] using h
  cases x<;>simp [Blk.shp] at hs
  rename_i v' e' sz' els
  obtain ⟨rfl,rfl,rfl,h4⟩:=hs
  subst h4
  simp only [PV.snap,hx]
  exact .s _ _ (.nil _ _)
 | fl b g v e sz n cap h hv hg hcap hm hs=>
  subst hsh
  obtain ⟨x,hx,hs'⟩:∃ x,H[b]? = some x/\x.shp = .arr v e sz n:=by simpa [A2] using h
  cases x<;>simp [Blk.shp] at hs'
  rename_i v' e' sz' els
  obtain ⟨rfl,rfl,rfl,rfl⟩:=hs'
  have hne:¬ (v'=true/\els=[]):=by rintro ⟨q1,q2⟩;exact hv q1 (by rw [q2];rfl)
  have hz:(v'&&els.isEmpty)=false:=by grind
  simp only [PV.snap,hx,hz]
  have:=HJ (i:=0) (n:=els.length) (a:=⟨g,0,none⟩) (cap:=cap) hH hx hne hg (by omega) (λ_=>by simp) hcap hm (St':=Γ.all.St) (λ_ h=>Or.inl h) (.inr ⟨b,hg⟩)
  simp only [List.drop_zero,List.take_length] at this
  exact .s _ _ this
 | vwv b e sz i h=>
  subst hsh
  obtain ⟨x,hx,hs⟩:∃ x,H[b]? = some x/\x.shp = .arr true e sz 0:=by simpa [A2] using h
  cases x<;>simp [Blk.shp] at hs
  rename_i v' e' sz' els
  obtain ⟨rfl,rfl,rfl,h4⟩:=hs
  subst h4
  simp only [PV.snap,hx,List.drop_nil,List.take_nil]
  exact .s _ _ (.nil _ _)
 | vw b i n g a cap v e sz m h hv hg ha hi hcap hm=>
  subst hsh
  obtain ⟨x,hx,hs'⟩:∃ x,H[b]? = some x/\x.shp = .arr v e sz m:=by simpa [A2] using h
  cases x<;>simp [Blk.shp] at hs'
  rename_i v' e' sz' els
  obtain ⟨rfl,rfl,rfl,rfl⟩:=hs'
  have hne:¬ (v'=true/\els=[]):=by rintro ⟨q1,q2⟩;exact hv q1 (by rw [q2];rfl)
  have hz:(v'&&els.isEmpty)=false:=by grind
  simp only [PV.snap,hx,hz]
  exact .s _ _ (HJ hH hx hne hg hi ha hcap hm (λ_ h=>Or.inl h) (.inr ⟨b,hg⟩))
 | ptrA b i off g v e sz n h hg=>exact (VP.ptrA b i off g v e sz n h hg).toAll
 | ptrB b off g h hg=>exact (VP.ptrB b off g h hg).toAll
 | fnr f x y A B As Bs hf hA hB ha hb hx hy ihx ihy=>exact (VP.fnr f x y A B As Bs hf hA hB ha hb hx hy).toAll
 | it b g h hg=>exact (VP.it b g h hg).toAll
 | yd=>exact .yd
 | agg l A As hA ha hl ih=>
  simp only [PV.snap,U6]
  refine .agg _ A As (by simpa using hA) (λj h=>ha j (by simpa using h)) (λj h=>?_)
  grind
 | tup l A As hA ha hl ih=>exact (VP.tup l A As hA ha hl).toAll
 | bad V=>exact .bad V
theorem CC {l:List PV} (h:Jx l=false):∀ v∈l,v.rows=false:=by
 induction l with
 | nil=>simp
 | cons a l ih=>
  simp only [Jx,Bool.or_eq_false_iff] at h
  grind
theorem VP.snap_plain {sh:Nat->Option Shp} {v:PV} {V:Value} (h:VP Γ sh w v V):v.rows=false->VP Γ sh w (v.snap H) V/\∀ c∈(v.snap H).nms,c∈v.nms:=by
 induction h with
 | nsl=>intro _;exact ⟨.s _ _ (.nil _ _),by simp [PV.snap,PV.nms]⟩
 | flv b e sz h=>intro hr;simp [PV.rows] at hr
 | fl b g v e sz n cap h hv hg hcap hm hs=>intro hr;simp [PV.rows] at hr
 | vwv b e sz i h=>intro hr;simp [PV.rows] at hr
 | vw b i n g a cap v e sz m h hv hg ha hi hcap hm=>intro hr;simp [PV.rows] at hr
 | agg l A As hA ha hl ih=>
  intro hr
  simp only [PV.rows] at hr
  have hr':=CC hr
  simp only [PV.snap,U6]
  refine ⟨.agg _ A As (by simpa using hA) (λj h=>ha j (by simpa using h)) (λj h=>?_),λc hc=>?_⟩
  ·grind
  ·simp only [PV.nms] at hc ⊢
   obtain ⟨j,hj,hc⟩:=B6.1 hc
   rw [List.getElem_map] at hc
   exact B6.2 ⟨j,by simpa using hj,(ih j (by simpa using hj) (hr' _ (List.getElem_mem _))).2 c hc⟩
 | s v V h=>intro _;exact ⟨.s v V h,λc hc=>hc⟩
 | ptrA b i off g v e sz n h hg=>intro _;exact ⟨.ptrA b i off g v e sz n h hg,λc hc=>hc⟩
 | ptrB b off g h hg=>intro _;exact ⟨.ptrB b off g h hg,λc hc=>hc⟩
 | fnr f x y A B As Bs hf hA hB ha hb hx hy ihx ihy=>intro _;exact ⟨.fnr f x y A B As Bs hf hA hB ha hb hx hy,λc hc=>hc⟩
 | it b g h hg=>intro _;exact ⟨.it b g h hg,λc hc=>hc⟩
 | yd=>intro _;exact ⟨.yd,λc hc=>hc⟩
 | tup l A As hA ha hl ih=>intro _;exact ⟨.tup l A As hA ha hl,λc hc=>hc⟩
 | bad V=>intro _;exact ⟨.bad V,λc hc=>hc⟩
theorem CR.snap (hH:HR Γ H w) {l:List PV} {A:Array Value} (h:CR Γ (A2 H) w l A):CR Γ.all (A2 H) w (I9 H l) A:=by
 rw [U6]
 refine ⟨by rw [List.length_map];exact h.1,λj hj=>?_⟩
 obtain ⟨U,e,k⟩:=h.2 j (by simpa using hj)
 exact ⟨U,e,by rw [List.getElem_map];exact k.snap hH⟩
theorem CR.snap_plain {l:List PV} {A:Array Value} (h:CR Γ (A2 H) w l A) (hr:Jx l=false):CR Γ (A2 H) w (I9 H l) A/\∀ c∈B8 (I9 H l),c∈B8 l:=by
 have hr':=CC hr
 rw [U6]
 refine ⟨⟨by rw [List.length_map];exact h.1,λj hj=>?_⟩,λc hc=>?_⟩
 ·obtain ⟨U,e,k⟩:=h.2 j (by simpa using hj)
  exact ⟨U,e,by rw [List.getElem_map];exact (k.snap_plain (hr' _ (List.getElem_mem _))).1⟩
 ·obtain ⟨j,hj,hc⟩:=B6.1 hc
  rw [List.getElem_map] at hc
  have hj':j<l.length:=by simpa using hj
  obtain ⟨U,e,k⟩:=h.2 j hj'
  exact B6.2 ⟨j,hj',(k.snap_plain (hr' _ (List.getElem_mem _))).2 c hc⟩
theorem CR.bare {Γ':Ctx} {sh sh':Nat->Option Shp} {l:List PV} {A:Array Value} (h:CR Γ sh w l A) (hn:B8 l=[]) (hst:∀ g,Γ.St g->Γ'.St g) (hyv:Γ'.yv = Γ.yv):CR Γ' sh' w l A:=
 ⟨h.1,λj hj=>by
  obtain ⟨U,e,k⟩:=h.2 j hj
  refine ⟨U,e,k.mono (ok:=λ_=>False) ⟨λ_ _=>rfl,hst,λ_ h=>h.elim,λ_ h=>h.elim,λ_ _ h=>h.elim,hyv⟩ (λb hb=>?_)⟩
  have:b∈B8 l:=B6.2 ⟨j,hj,hb⟩
  rw [hn] at this
  simp at this⟩
theorem So {St':Nat->Prop} {w':World} (hH:HR Γ H w) (hold:∀ g,g<w.heap.size->w'.heap[g]? = w.heap[g]?) (hs:∀ g,Γ.St g->St' g):T7 Γ (A2 H) w { Γ with St:=St' } (A2 H) w' (λ_=>True):=
 ⟨λg hg=>hold g (hH.stlt g hg),hs,λ_ _=>rfl,λ_ _=>rfl,λb g _ hg=>D1 (hold g (hH.lt b g hg).2.1),rfl⟩
theorem Ba0 {St':Nat->Prop} {w':World} (hH:HR Γ H w) (hold:∀ g,g<w.heap.size->w'.heap[g]? = w.heap[g]?) (hsz:w.heap.size<=w'.heap.size) (hs:∀ g,Γ.St g->St' g) (hn:∀ g,St' g->Γ.St g\/w.heap.size<=g) (hlt:∀ g,St' g->g<w'.heap.size):HR { Γ with St:=St' } H w':=by
 refine ⟨hH.inj,λb g hg=>?_,hlt,hH.nms,λb hb=>(hH.blk b hb).mono (So hH hold hs) rfl (λg hg=>hold g (hH.lt b g hg).2.1) (λ_ _=>trivial)⟩
 have:=hH.lt b g hg
 grind
theorem Av7 {St':Nat->Prop} {w':World} {Φ:Nat->Prop} (hH:HR Γ H w) (hold:∀ g,g<w.heap.size->w'.heap[g]? = w.heap[g]?) (hsz:w.heap.size<=w'.heap.size) (hs:∀ g,Γ.St g->St' g) (hn:∀ g,St' g->Γ.St g\/w.heap.size<=g) (h1:w'.os=w.os) (h2:w'.tape=w.tape) (h3:w'.output=w.output) :
  Stp C Γ H w Φ { Γ with St:=St' } H w' Φ:=
 ⟨h1,h2,h3,hsz,hs,hn,λb g hg=>.inl ⟨(hH.lt b g hg).1,hg⟩,λ_ h=>.inl h,λg hg _ _=>hold g hg,rfl,Nat.le_refl _,λb hb hf=>⟨rfl,rfl,λg hg=>D1 (hold g (hH.lt b g hg).2.1)⟩⟩
end
section
variable {σ R : Type} {r : R} {C : Cfg} {I : σ -> (Nat -> Prop) -> (Nat -> Prop) -> World -> Prop} {Γ : Ctx} {Φ : Nat -> Prop} {st : St σ} {tmps : Array Value} {w : World} {cl : D5} {yh : Yh σ} {yv : Value}
def IH (C:Cfg) (I:σ->(Nat->Prop)->(Nat->Prop)->World->Prop) (Γ:Ctx) (Φ:Nat->Prop) (st:St σ) (tmps:Array Value) (w:World) (k:PV->St σ->Option R) (r:R) (V:Value) (w':World):Prop:=
 ∃ v st' Γ' Φ',k v st'=some r/\Stp C Γ st.hp w Φ Γ' st'.hp w' Φ'/\SI C I Γ' Φ' st' tmps w'/\VP Γ' (A2 st'.hp) w' v V/\∀ c∈v.nms,c<st'.hp.length
theorem Ea {Γc:Ctx} (hn:∀ b,Γc.nm b=none) (hlt:∀ g,Γc.St g->g<w.heap.size):HR Γc [] w:=
 ⟨λb b' g h=>(by rw [hn] at h;cases h),λb g h=>(by rw [hn] at h;cases h),hlt,λb h=>by simp at h,λb h=>by simp at h⟩
theorem SI.wide (hI:HI I) (S:SI C I Γ Φ st tmps w) {St':Nat->Prop} {w':World} (hold:∀ g,g<w.heap.size->w'.heap[g]? = w.heap[g]?) (hsz:w.heap.size<=w'.heap.size) (hs:∀ g,Γ.St g->St' g) (hn:∀ g,St' g->Γ.St g\/w.heap.size<=g) (hlt:∀ g,St' g->g<w'.heap.size)
  (h1:w'.os=w.os) (h2:w'.tape=w.tape) (h3:w'.output=w.output):SI C I { Γ with St:=St' } Φ st tmps w'/\Stp C Γ st.hp w Φ { Γ with St:=St' } st.hp w' Φ:=by
 have hstp:=Av7 (C:=C) (Φ:=Φ) S.hr hold hsz hs hn h1 h2 h3
 refine ⟨?_,hstp⟩
 have:=S.step hI hstp (λg hg=>hold g (hI.foot _ _ _ _ S.inv g hg).1) (Ba0 S.hr hold hsz hs hn hlt) (S.sr.mono (So S.hr hold hs) (λc hc=>⟨trivial,S.sr.nms c hc⟩))
 exact this
theorem SI.wideSt (hI:HI I) (S:SI C I Γ Φ st tmps w) {St':Nat->Prop} (hs:∀ g,Γ.St g->St' g) (hd:∀ g,St' g->¬ Φ g) (hn:∀ b g,Γ.nm b=some g->¬ St' g) (hlt:∀ g,St' g->g<w.heap.size):SI C I { Γ with St:=St' } Φ st tmps w:=by
 have M:T7 Γ (A2 st.hp) w { Γ with St:=St' } (A2 st.hp) w (λ_=>True):=⟨λ_ _=>rfl,hs,λ_ _=>rfl,λ_ _=>rfl,λ_ _ _ _=>rfl,rfl⟩
 refine ⟨⟨S.hr.inj,λb g hb=>?_,hlt,S.hr.nms,λb hb=>(S.hr.blk b hb).mono M rfl (λ_ _=>rfl) (λ_ _=>trivial)⟩,
  S.sr.mono M (λc hc=>⟨trivial,S.sr.nms c hc⟩),S.g.mono (λ_ _=>rfl) hs,hI.mono _ _ _ _ _ _ S.inv hs hd hlt (λ_ _=>rfl) (Nat.le_refl _) rfl rfl rfl,S.dis⟩
 obtain ⟨q1,q2,_⟩:=S.hr.lt b g hb
 exact ⟨q1,q2,hn b g hb⟩
theorem OH (S:SI C I Γ Φ st tmps w):∀ g,Γ.all.St g->g<w.heap.size:=by
 rintro g (h | ⟨b,h⟩)
 ·exact S.hr.stlt g h
 ·exact (S.hr.lt b g h).2.1
theorem Ah4:HI I0:=⟨λ_ _ Φ _ h g hg=>absurd hg (h g),λ_ _ Φ _ _ _ h _ _ _ _ _ _ _ _=>h⟩
theorem Ah5 {P:Program} {yv:Value}:OF P I0 (λ_ _=>none) yv:=λ_ _ _ _ h=>by cases h
theorem Sn {ret:PV} {Hc:List Blk} {k:PV->St σ->Option R} {St0:Nat->Prop} {Res:Result Next} (hI:HI I) (S:SI C I Γ Φ st tmps w) (hSt:∀ g,Γ.St g->St0 g) (hcln:(∀ g,St0 g->Γ.St g)\/(ret.clean=true/\Hc.all Blk.clean=true))
  (hres:K8 C.P Res (X7 C I0 { Γ with St:=St0,nm:=λ_=>none } [] w noΦ ret Hc ()))
  (hk:k (ret.rn (st.hp.length + ·)) { sl:=st.sl,hp:=st.hp++Hc.map (Blk.rn (st.hp.length + ·)),s:=st.s } = some r):K8 C.P Res (λV w'=>IH C I Γ Φ st tmps w k r V w'/\J2 w w'):=by
 let Γc:Ctx:={ Γ with St:=St0,nm:=λ_=>none }
 refine hres.mono ?_
 rintro V w' ⟨Γ1,Φ1,hs,hH1,hv,hvn,hi1,hd1⟩
 have hold:∀ k,k<w.heap.size->w'.heap[k]? = w.heap[k]?:=λk hk=>hs.frame k hk (λb=>by simp) (λx=>x)
 generalize hL:st.hp.length=L at *
 have hnew:∀ i g,Γ1.nm i=some g->i<Hc.length/\w.heap.size<=g/\g<w'.heap.size:=λi g h=>by
  refine ⟨(hH1.lt i g h).1,?_,(hH1.lt i g h).2.1⟩
  rcases hs.own i g h with ⟨h',_⟩ | h'
  ·simp at h'
  ·exact h'
 obtain ⟨St2,hst2,hst2n,hst2l,hclr⟩:∃ St2:Nat->Prop,(∀ g,Γ.St g->St2 g)/\(∀ g,St2 g->Γ.St g\/(w.heap.size<=g/\Γ1.St g))/\(∀ g,St2 g->g<w'.heap.size)/\((∀ g,Γ1.St g->St2 g)\/(ret.clean=true/\Hc.all Blk.clean=true)):=by
  rcases hcln with h | h
  ·refine ⟨Γ1.St,λg hg=>hs.sub g (hSt g hg),λg hg=>?_,λg hg=>hH1.stlt g hg,.inl λ_ h=>h⟩
   rcases hs.stnew g hg with q | q
   ·exact .inl (h g q)
   ·exact .inr ⟨q,hg⟩
  ·exact ⟨Γ.St,λ_ h=>h,λ_ h=>.inl h,λg hg=>Nat.lt_of_lt_of_le (S.hr.stlt g hg) hs.size,.inr h⟩
 let Γ2:Ctx:={ Γ with St:=St2,nm:=λb=>if b<L then Γ.nm b else Γ1.nm (b-L) }
 let H2:List Blk:=st.hp++Hc.map (Blk.rn (L + ·))
 have hsh:∀ i,i<Hc.length->A2 H2 (L+i)=A2 Hc i:=λi hi=>by
  simp only [H2,A2]
  rw [List.getElem?_append_right (by omega),hL,Nat.add_sub_cancel_left,List.getElem?_map,Option.map_map]
  congr 1
  funext x
  exact Blk.rn_shp _ x
 have M:T7 Γ (A2 st.hp) w Γ2 (A2 H2) w' (· < L):=⟨λg hg=>hold g (S.hr.stlt g hg),hst2,λb hb=>by simp only [Γ2];rw [if_pos hb],λb hb=>K9 (by omega),λb g hb hg=>D1 (hold g (S.hr.lt b g hg).2.1),rfl⟩
 have hnm2:∀ i,i<Hc.length->Γ2.nm (L+i) = Γ1.nm i:=λi hi=>by simp only [Γ2];rw [if_neg (by omega),Nat.add_sub_cancel_left]
 have hyv:Γ2.yv = Γ1.yv:=by have:=hs.yv;exact this.symm
 have hlen2:H2.length=L+Hc.length:=by simp [H2,hL]
 have hr2:HR Γ2 H2 w':=by
  refine ⟨λb b' g h1 h2=>?_,λb g h=>?_,hst2l,λb hb c hcc=>?_,λb hb=>?_⟩
  ·simp only [Γ2] at h1 h2
   split at h1<;>split at h2
   ·exact S.hr.inj b b' g h1 h2
   ·have:=(S.hr.lt b g h1).2.1;have:=(hnew _ g h2).2.1;omega
   ·have:=(S.hr.lt b' g h2).2.1;have:=(hnew _ g h1).2.1;omega
   ·have:=hH1.inj _ _ g h1 h2;omega
  ·rw [hlen2]
   simp only [Γ2] at h
   split at h
   ·have:=S.hr.lt b g h
    refine ⟨by omega,by have:=hs.size;omega,λhst=>?_⟩
    rcases hst2n g hst with q | q
    ·exact this.2.2 q
    ·omega
   ·have:=hnew _ g h
    refine ⟨by omega,this.2.2,λhst=>?_⟩
    rcases hst2n g hst with q | q
    ·have:=S.hr.stlt g q;omega
    ·exact (hH1.lt _ g h).2.2 q.2
  ·rw [hlen2] at hb ⊢
   by_cases hbL:b<L
   ·have:H2[b]'(by omega)=st.hp[b]'(by omega):=List.getElem_append_left (by omega)
    rw [this] at hcc
    have:=S.hr.nms b (by omega) c hcc;omega
   ·have:H2[b]'(by omega)=(Hc[b-L]'(by omega)).rn (L + ·):=by
     simp only [H2]
     rw [List.getElem_append_right (by omega),List.getElem_map]
     simp [hL]
    rw [this,Blk.rn_nms] at hcc
    obtain ⟨d,hd,rfl⟩:=List.mem_map.1 hcc
    have:=hH1.nms _ (by omega) d hd
    omega
  ·rw [hlen2] at hb
   by_cases hbL:b<L
   ·have:H2[b]'(by omega)=st.hp[b]'(by omega):=List.getElem_append_left (by omega)
    rw [this]
    exact (S.hr.blk b (by omega)).mono M (M.nm b hbL) (λg hg=>hold g (S.hr.lt b g hg).2.1) (λc hc=>by have:=S.hr.nms b (by omega) c hc;omega)
   ·have:H2[b]'(by omega)=(Hc[b-L]'(by omega)).rn (L + ·):=by
     simp only [H2]
     rw [List.getElem_append_right (by omega),List.getElem_map]
     simp [hL]
    rw [this]
    refine (hH1.blk _ (by omega)).rn hyv (by
     rcases hclr with h | h
     ·exact .inr h
     ·exact .inl (List.all_eq_true.1 h.2 _ (List.getElem_mem _))) ?_ (λc hc=>?_)
    ·have:=hnm2 (b-L) (by omega)
     rw [show L+(b-L)=b by omega] at this
     exact this
    ·have hlt:=hH1.nms _ (by omega) c hc
     exact ⟨hnm2 c hlt,hsh c hlt⟩
 have hstp:Stp C Γ st.hp w Φ Γ2 H2 w' Φ:=by
  refine ⟨hs.os,hs.tape,hs.output,hs.size,hst2,λg hg=>(hst2n g hg).imp (λh=>h) (λh=>h.1),λb g h=>?_,λ_ h=>.inl h,λg hg _ _=>hold g hg,rfl,by omega,λb hb hf=>⟨M.nm b (by omega),M.shp b (by omega),λg hg=>M.hs b g (by omega) hg⟩⟩
  simp only [Γ2] at h
  split at h
  ·exact .inl ⟨by omega,h⟩
  ·exact .inr (hnew _ g h).2.1
 have S':=S.step hI hstp (λg hg=>hold g (hI.foot _ _ _ _ S.inv g hg).1) hr2 (S.sr.mono M (λc hc=>by have:=S.sr.nms c hc;omega))
 refine ⟨⟨_,_,Γ2,Φ,hk,hstp,S',?_,λc hc=>?_⟩,⟨hold,hs.size⟩,hs.os,hs.tape,hs.output⟩
 ·exact hv.rn hyv (by rcases hclr with h | h;exact .inr h;exact .inl h.1) (λc hc=>⟨hnm2 c (hvn c hc),hsh c (hvn c hc)⟩)
 ·rw [PV.rn_nms] at hc
  obtain ⟨d,hd,rfl⟩:=List.mem_map.1 hc
  have:=hvn d hd
  show L+d<H2.length
  omega
theorem JC {g:Nat} {args:List PV} {Vs:Array Value} {ret:PV} {Hc:List Blk} {k:PV->St σ->Option R} (hI:HI I) (hC:X8 C cl) (S:SI C I Γ Φ st tmps w) (hc:CR Γ (A2 st.hp) w args Vs) (hna:B8 (I9 st.hp args)=[]) (hcl:cl Unit (λ_ _=>none) g (I9 st.hp args) [] ()=some (ret,Hc,()))
  (hret:ret.clean=true) (hH:Hc.all Blk.clean=true) (hk:k (ret.rn (st.hp.length + ·)) { sl:=st.sl,hp:=st.hp++Hc.map (Blk.rn (st.hp.length + ·)),s:=st.s } = some r):K8 C.P ((callFunc g Vs).run C.P w) (IH C I Γ Φ st tmps w k r):=by
 have hc1:=hc.snap S.hr
 let Γc:Ctx:={ Γ.all with nm:=λ_=>none }
 have hc2:CR Γc (A2 []) w (I9 st.hp args) Vs:=hc1.bare hna (λ_ h=>h) rfl
 exact (Sn hI S (St0:=Γ.all.St) (λ_ h=>Or.inl h) (.inr ⟨hret,hH⟩)
  (hC Unit I0 _ Γ.yv Ah4 Ah5 g _ [] () ret Hc () hcl Γc noΦ w Vs rfl (Ea (λ_=>rfl) (OH S)) (S.g.mono (λ_ _=>rfl) (λ_ h=>Or.inl h)) (λ_ h=>h) (λb g h=>by cases h) hc2 (by rw [hna];simp)) hk).mono λ_ _ h=>h.1
theorem Wo {g:Nat} {args:List PV} {Vs:Array Value} {pf:List PV->Tr} {ret:PV} {Hc:List Blk} {k:PV->St σ->Option R} (hI:HI I) (hX:XOK C) (S:SI C I Γ Φ st tmps w) (hc:CR Γ (A2 st.hp) w args Vs) (hg:C.X g=some pf) (hpf:G1 (pf (I9 st.hp args))=some (ret,Hc))
  (hna:B8 (I9 st.hp args)=[]) (hcl:Jx args=false\/(ret.clean=true/\Hc.all Blk.clean=true)) (hk:k (ret.rn (st.hp.length + ·)) { sl:=st.sl,hp:=st.hp++Hc.map (Blk.rn (st.hp.length + ·)),s:=st.s } = some r):K8 C.P ((callFunc g Vs).run C.P w) (λV w'=>IH C I Γ Φ st tmps w k r V w'/\J2 w w'):=by
 by_cases hr:Jx args=false
 ·have hc1:=(hc.snap_plain hr).1
  let Γc:Ctx:={ Γ with nm:=λ_=>none }
  have hc2:CR Γc (A2 []) w (I9 st.hp args) Vs:=hc1.bare hna (λ_ h=>h) rfl
  exact Sn hI S (St0:=Γ.St) (λ_ h=>h) (.inl λ_ h=>h) (hX.x g pf _ ret Hc hg hpf Γc w Vs (λ_=>rfl) (Ea (λ_=>rfl) S.hr.stlt) S.g hc2) hk
 ·have hcl':ret.clean=true/\Hc.all Blk.clean=true:=by rcases hcl with h | h;exact absurd h hr;exact h
  have hc1:=hc.snap S.hr
  let Γc:Ctx:={ Γ.all with nm:=λ_=>none }
  have hc2:CR Γc (A2 []) w (I9 st.hp args) Vs:=hc1.bare hna (λ_ h=>h) rfl
  exact Sn hI S (St0:=Γ.all.St) (λ_ h=>Or.inl h) (.inr hcl') (hX.x g pf _ ret Hc hg hpf Γc w Vs (λ_=>rfl) (Ea (λ_=>rfl) (OH S)) (S.g.mono (λ_ _=>rfl) (λ_ h=>Or.inl h)) hc2) hk
theorem JE {g:Nat} {args:List PV} {Vs:Array Value} {pf:List PV->Tr} {ret:PV} {Hc:List Blk} {k:PV->St σ->Option R} (hI:HI I) (hX:XOK C) (S:SI C I Γ Φ st tmps w) (hc:CR Γ (A2 st.hp) w args Vs) (hg:C.X g=some pf) (hpf:G1 (pf (I9 st.hp args))=some (ret,Hc))
  (hna:B8 (I9 st.hp args)=[]) (hcl:Jx args=false\/(ret.clean=true/\Hc.all Blk.clean=true)) (hk:k (ret.rn (st.hp.length + ·)) { sl:=st.sl,hp:=st.hp++Hc.map (Blk.rn (st.hp.length + ·)),s:=st.s } = some r):K8 C.P ((callFunc g Vs).run C.P w) (IH C I Γ Φ st tmps w k r):=
 (Wo hI hX S hc hg hpf hna hcl hk).mono λ_ _ h=>h.1
end
def Ctx.lent (Γ:Ctx) (ns:List Nat):Ctx:={ Γ with nm:=λi=>(ns[i]?).bind Γ.nm }
def Ctx.back (Γ Γ1:Ctx) (ns:List Nat) (L:Nat) (d:Bool):Ctx:=
 { St:=Γ1.St,nm:=λb=>if b∈ns then Γ1.nm (F0 ns b) else if b<L then Γ.nm b else if d=true then none else Γ1.nm (ns.length+(b-L)),yv:=Γ.yv,yv1:=Γ.yv1 }
section
variable {σ R : Type} {r : R} {C : Cfg} {I : σ -> (Nat -> Prop) -> (Nat -> Prop) -> World -> Prop} {Γ : Ctx} {H : List Blk} {Φ : Nat -> Prop} {st : St σ} {tmps : Array Value} {w : World} {cl : D5} {yh : Yh σ} {yv : Value}
def L2 (H:List Blk) (ns:List Nat):List Blk:=ns.map λb=>(H.getD b .dead).rn (F0 ns)
theorem Kr {ns:List Nat} {b:Nat} (h:b∈ns):(Γ.lent ns).nm (F0 ns b) = Γ.nm b:=by
 obtain ⟨h1,h2⟩:=V5 h
 simp only [Ctx.lent,List.getElem?_eq_getElem h1,h2,Option.bind_some]
theorem Gb {ns:List Nat} (hlt:∀ b∈ns,b<H.length) {i:Nat} (hi:i<ns.length):A2 (L2 H ns) i=A2 H ns[i]:=by
 have:=hlt _ (List.getElem_mem hi)
 simp only [A2,L2,List.getElem?_map,List.getElem?_eq_getElem hi,Option.map_some,Blk.rn_shp,List.getElem?_eq_getElem this]
 rw [List.getD_eq_getElem?_getD,List.getElem?_eq_getElem this]
 rfl
theorem GF {ns:List Nat} (hH:HR Γ H w) (hnd:ns.Nodup) (hlt:∀ b∈ns,b<H.length) (hcl:Aw H ns=true):HR (Γ.lent ns) (L2 H ns) w:=by
 have hcs:=Zn hcl
 have key:∀ i g,(Γ.lent ns).nm i=some g->∃ h:i<ns.length,Γ.nm ns[i]=some g:=λi g h=>by
  simp only [Ctx.lent] at h
  cases hi:ns[i]? with
  | none=>rw [hi] at h;simp at h
  | some b=>
   obtain ⟨h1,h2⟩:=List.getElem?_eq_some_iff.1 hi
   rw [hi] at h
   exact ⟨h1,by rw [h2];exact h⟩
 have hget:∀ b (h:b∈ns),H.getD b .dead=H[b]'(hlt b h):=λb h=>by rw [List.getD_eq_getElem?_getD,List.getElem?_eq_getElem (hlt b h)];rfl
 refine ⟨λi j g h1 h2=>?_,λi g h=>?_,hH.stlt,λi hi c hc=>?_,λi hi=>?_⟩
 ·obtain ⟨hi,e1⟩:=key i g h1
  obtain ⟨hj,e2⟩:=key j g h2
  have:=hH.inj _ _ g e1 e2
  exact (List.getElem_inj hnd).1 this
 ·obtain ⟨hi,e1⟩:=key i g h
  have:=hH.lt _ g e1
  exact ⟨by simpa [L2] using hi,this.2⟩
 ·simp only [L2,List.length_map] at hi ⊢
  simp only [L2,List.getElem_map,Blk.rn_nms] at hc
  obtain ⟨d,hd,rfl⟩:=List.mem_map.1 hc
  exact (V5 (hcs _ (List.getElem_mem hi) d hd)).1
 ·simp only [L2,List.length_map] at hi
  have hm:=List.getElem_mem hi
  have e:(L2 H ns)[i]'(by simpa [L2] using hi)=(H[ns[i]]'(hlt _ hm)).rn (F0 ns):=by
   simp only [L2,List.getElem_map,hget _ hm]
  rw [e]
  refine BR.rn (Γ:=Γ) (Γ':=Γ.lent ns) (b':=i) rfl (hH.blk _ (hlt _ hm)) (.inr λ_ h=>h) ?_ (λc hc=>?_)
  ·simp only [Ctx.lent,List.getElem?_eq_getElem hi,Option.bind_some]
  ·have hcn:c∈ns:=hcs _ hm c (by rw [hget _ hm];exact hc)
   obtain ⟨q1,q2⟩:=V5 hcn
   exact ⟨Kr hcn,by rw [Gb hlt q1,q2]⟩
theorem BI {L:Nat} {H:List Blk} (h:Aa7 L H=true):∀ x∈H,∀ c∈x.nms,c<L:=by
 intro x hx c hc
 simp only [Aa7,List.all_eq_true,decide_eq_true_eq] at h
 exact h x hx c hc
theorem Wz {b:Nat} (hb:b<H.length):Az C (H.getD b .dead)=true↔Fc C (A2 H b):=by
 have e:H.getD b .dead=H[b]:=by rw [List.getD_eq_getElem?_getD,List.getElem?_eq_getElem hb];rfl
 rw [e]
 simp only [A2,List.getElem?_eq_getElem hb,Option.map_some]
 cases H[b]<;>simp [Az,Fc,Blk.shp]
theorem Sv {g:Nat} {a1:List PV} {Vs:Array Value} {ret:PV} {Hc:List Blk} {s':σ} {k:PV->St σ->Option R} (hI:HI I) (hC:X8 C cl) (hy:OF C.P I yh yv) (hyv:Γ.yv=yv) (S:SI C I Γ Φ st tmps w) (hc:CR Γ (A2 st.hp) w a1 Vs) (hn:∀ c∈B8 a1,c<st.hp.length)
  (hcl:Aw st.hp (Z8 st.hp (B8 a1))=true) (hcall:cl σ yh g (rnL (F0 (Z8 st.hp (B8 a1))) a1) (L2 st.hp (Z8 st.hp (B8 a1))) st.s=some (ret,Hc,s'))
  (hk:k (Dy (N2 ((Z8 st.hp (B8 a1)).filter λb=>!Az C (st.hp.getD b .dead)) st.hp) (Z8 st.hp (B8 a1)) ret Hc).1
   { sl:=I3 ((Z8 st.hp (B8 a1)).filter λb=>!Az C (st.hp.getD b .dead)) st.sl,hp:=(Dy (N2 ((Z8 st.hp (B8 a1)).filter λb=>!Az C (st.hp.getD b .dead)) st.hp) (Z8 st.hp (B8 a1)) ret Hc).2,s:=s' } = some r) :
  K8 C.P ((callFunc g Vs).run C.P w) (IH C I Γ Φ st tmps w k r):=by
 have hnd:=To st.hp (B8 a1)
 have hsub:=BU st.hp (B8 a1)
 have hlt:∀ b∈Z8 st.hp (B8 a1),b<st.hp.length:=BT st.hp (B8 a1) (· < st.hp.length) (λb hb c hc=>by
  have e:st.hp.getD b .dead=st.hp[b]:=by rw [List.getD_eq_getElem?_getD,List.getElem?_eq_getElem hb];rfl
  rw [e] at hc
  exact S.hr.nms b hb c hc) hn
 generalize Z8 st.hp (B8 a1)=ns at *
 have hHc:=GF S.hr hnd hlt hcl
 have hci:=λb (h:b∈ns)=>V5 h
 have hargs:CR (Γ.lent ns) (A2 (L2 st.hp ns)) w (rnL (F0 ns) a1) Vs:=by
  rw [Si]
  refine ⟨by rw [List.length_map];exact hc.1,λj hj=>?_⟩
  have hj':j<a1.length:=by simpa using hj
  obtain ⟨U,e,q⟩:=hc.2 j hj'
  refine ⟨U,e,?_⟩
  rw [List.getElem_map]
  refine VP.rn (Γ:=Γ) (Γ':=Γ.lent ns) rfl q (.inr λ_ h=>h) (λc hc=>?_)
  have hcn:=hsub c (B6.2 ⟨j,hj',hc⟩)
  obtain ⟨q1,q2⟩:=hci c hcn
  exact ⟨Kr hcn,by rw [Gb hlt q1,q2]⟩
 have hargn:∀ c∈B8 (rnL (F0 ns) a1),c<(L2 st.hp ns).length:=λc hc=>by
  rw [Ei] at hc
  obtain ⟨d,hd,rfl⟩:=List.mem_map.1 hc
  simpa [L2] using (hci d (hsub d hd)).1
 refine (hC σ I yh yv hI hy g _ _ _ ret Hc s' hcall (Γ.lent ns) Φ w Vs hyv hHc S.g S.inv (λi g h=>?_) hargs hargn).mono ?_
 ·simp only [Ctx.lent] at h
  cases hi:ns[i]? with
  | none=>rw [hi] at h;simp at h
  | some b=>rw [hi] at h;exact S.dis b g h
 rintro V w' ⟨Γ1,Φ1,hs,hH1,hv,hvn,hi1,hd1⟩
 generalize hL:st.hp.length=L at *
 generalize hks:(ns.filter λb=>!Az C (st.hp.getD b .dead))=ks at *
 obtain ⟨kb1,kb2,kb3⟩:=Jn (Γ:=Γ) (sh:=A2 st.hp) (w:=w) ks st.hp
 have hlH:(L2 st.hp ns).length=ns.length:=by simp [L2]
 have hnc:ns.length<=Hc.length:=by have:=hs.len;omega
 simp only [Dy,kb1,hL] at hk
 generalize hf:Gt ns L=f at *
 have f1:∀ i (h:i<ns.length),f i=ns[i]:=λi h=>by rw [<-hf];simp only [Gt,if_pos h];exact Bb h
 have f2:∀ i,¬ i<ns.length->f i=L+(i-ns.length):=λi h=>by rw [<-hf];simp only [Gt,if_neg h]
 generalize hd:((ret.rn f).nms.all (· < L)&&Aa7 L ((Hc.take ns.length).map (Blk.rn f)))=d at hk
 let E:List Blk:=cond d [] ((Hc.drop ns.length).map (Blk.rn f))
 have hlen1:((Hc.take ns.length).map (Blk.rn f)).length=ns.length:=by simp;omega
 obtain ⟨sa1,sa2⟩:=Ep ns ((Hc.take ns.length).map (Blk.rn f)) (N2 ks st.hp) hnd hlen1 (λb hb=>by rw [kb1];have:=hlt b hb;omega)
 have hE:(cond d (W3 (N2 ks st.hp) ns ((Hc.take ns.length).map (Blk.rn f))) (W3 (N2 ks st.hp) ns ((Hc.take ns.length).map (Blk.rn f))++(Hc.drop ns.length).map (Blk.rn f)))=W3 (N2 ks st.hp) ns ((Hc.take ns.length).map (Blk.rn f))++E:=by
  cases d<;>simp [E]
 rw [hE] at hk
 generalize hH2:W3 (N2 ks st.hp) ns ((Hc.take ns.length).map (Blk.rn f))++E=H2 at hk
 have hl2:H2.length=L+E.length:=by rw [<-hH2,List.length_append,sa1,kb1,hL]
 have hEl:E.length=if d=true then 0 else Hc.length-ns.length:=by cases d<;>simp [E]
 have g1:∀ b (hb:b∈ns),H2[b]? = some ((Hc[F0 ns b]'(by have:=(hci b hb).1;omega)).rn f):=λb hb=>by
  have hbl:=hlt b hb
  rw [<-hH2,List.getElem?_append_left (by rw [sa1,kb1,hL];exact hbl),sa2,if_pos hb]
  have hi:=(hci b hb).1
  have e:ns.idxOf b=F0 ns b:=rfl
  rw [e,List.getElem?_map,List.getElem?_take,if_pos hi,List.getElem?_eq_getElem (by omega)]
  rfl
 have g2:∀ b,b<L->b∉ns->H2[b]? = (N2 ks st.hp)[b]?:=λb hb hbn=>by
  rw [<-hH2,List.getElem?_append_left (by rw [sa1,kb1,hL];exact hb),sa2,if_neg hbn]
 have g3:∀ b,L<=b->(hb:b<H2.length)->d=false/\∃ h:ns.length+(b-L)<Hc.length,H2[b]? = some ((Hc[ns.length+(b-L)]).rn f):=λb hbL hb=>by
  have hd':d=false:=by
   rcases Bool.eq_false_or_eq_true d with h | h
   ·rw [hl2,hEl,h] at hb;simp at hb;omega
   ·exact h
  have h':ns.length+(b-L)<Hc.length:=by rw [hl2,hEl,hd'] at hb;simp at hb;omega
  refine ⟨hd',h',?_⟩
  rw [<-hH2,List.getElem?_append_right (by rw [sa1,kb1,hL];exact hbL),sa1,kb1,hL]
  simp only [E,hd',cond_false,List.getElem?_map,List.getElem?_drop,List.getElem?_eq_getElem h',Option.map_some]
 let Γ2:=Γ.back Γ1 ns L d
 have G:∀ i,i<Hc.length->(i<ns.length\/d=false)->Γ2.nm (f i) = Γ1.nm i/\A2 H2 (f i)=A2 Hc i/\f i<H2.length:=λi hi hg=>by
  by_cases h:i<ns.length
  ·rw [f1 i h]
   have hm:=List.getElem_mem h
   have hidx:F0 ns ns[i]=i:=by
    obtain ⟨q1,q2⟩:=hci _ hm
    exact (List.getElem_inj hnd).1 q2
   refine ⟨by simp only [Γ2,Ctx.back,if_pos hm,hidx],?_,by have:=hlt _ hm;omega⟩
   simp only [A2,g1 _ hm,Option.map_some,Blk.rn_shp,hidx,List.getElem?_eq_getElem hi]
  ·have hd':d=false:=by rcases hg with hg | hg;exact absurd hg h;exact hg
   have hbL:L+(i-ns.length)<H2.length:=by rw [hl2,hEl,hd'];simp;omega
   have hnn:L+(i-ns.length)∉ns:=λhm=>by have:=hlt _ hm;omega
   rw [f2 i h]
   refine ⟨?_,?_,hbL⟩
   ·simp only [Γ2,Ctx.back,if_neg hnn,hd']
    rw [if_neg (by omega),if_neg (by simp)]
    congr 1;omega
   ·obtain ⟨_,h',e⟩:=g3 _ (by omega) hbL
    have e2:ns.length+(L+(i-ns.length)-L)=i:=by omega
    simp only [A2,e,Option.map_some,Blk.rn_shp,List.getElem?_eq_getElem hi]
    congr 2
    simp only [e2]
 have gret:∀ c∈ret.nms,c<ns.length\/d=false:=λc hc=>by
  cases hdd:d with
  | false=>exact .inr rfl
  | true=>
   rw [hdd] at hd
   simp only [Bool.and_eq_true,List.all_eq_true,decide_eq_true_eq] at hd
   refine .inl (Decidable.byContradiction λh=>?_)
   have:=hd.1 (f c) (by rw [PV.rn_nms];exact List.mem_map_of_mem hc)
   rw [f2 c h] at this
   omega
 have glent:∀ i (hi:i<ns.length),∀ c∈(Hc[i]'(by omega)).nms,c<ns.length\/d=false:=λi hi c hc=>by
  cases hdd:d with
  | false=>exact .inr rfl
  | true=>
   rw [hdd] at hd
   simp only [Bool.and_eq_true] at hd
   refine .inl (Decidable.byContradiction λh=>?_)
   have hmem:(Hc[i]'(by omega)).rn f∈(Hc.take ns.length).map (Blk.rn f):=List.mem_map_of_mem (by rw [List.mem_take_iff_getElem];exact ⟨i,by omega,rfl⟩)
   have:=BI hd.2 _ hmem (f c) (by rw [Blk.rn_nms];exact List.mem_map_of_mem hc)
   rw [f2 c h] at this
   omega
 have hΓc:∀ i g,(Γ.lent ns).nm i=some g->∃ h:i<ns.length,Γ.nm ns[i]=some g:=λi g h=>by
  simp only [Ctx.lent] at h
  cases hi:ns[i]? with
  | none=>rw [hi] at h;simp at h
  | some b=>
   obtain ⟨q1,q2⟩:=List.getElem?_eq_some_iff.1 hi
   rw [hi] at h
   exact ⟨q1,by rw [q2];exact h⟩
 have hfoot:=hI.foot _ _ _ _ S.inv
 have hold:∀ b g,b∉ns->Γ.nm b=some g->w'.heap[g]? = w.heap[g]?:=λb g hb hg=>hs.frame g (S.hr.lt b g hg).2.1 (λi hi=>by
  obtain ⟨h1,h2⟩:=hΓc i g hi
  have:=S.hr.inj _ _ g h2 hg
  exact hb (this ▸ List.getElem_mem h1)) (S.dis b g hg)
 have hst:∀ g,Γ.St g->w'.heap[g]? = w.heap[g]?:=λg hg=>hs.frame g (S.hr.stlt g hg) (λi hi=>by
  obtain ⟨h1,h2⟩:=hΓc i g hi
  exact (S.hr.lt _ g h2).2.2 hg) (λhp=>(hfoot g hp).2 hg)
 have hown:∀ i g,Γ1.nm i=some g->(∃ h:i<ns.length,Γ.nm ns[i]=some g)\/w.heap.size<=g:=λi g h=>by
  rcases hs.own i g h with ⟨_,h⟩ | h
  ·exact .inl (hΓc i g h)
  ·exact .inr h
 have hks':∀ b,b∈ns->b∉ks->Fc C (A2 st.hp b):=λb hb hbk=>by
  rw [<-hks] at hbk
  have hbl:=hlt b hb
  rw [<-Wz (by omega)]
  simp only [List.mem_filter,not_and,Bool.not_eq_true'] at hbk
  simpa using hbk hb
 have hkeep:∀ b,b∈ns->Fc C (A2 st.hp b)->Γ2.nm b = Γ.nm b/\A2 H2 b=A2 st.hp b/\∀ g,Γ.nm b=some g->w'.shape? g=w.shape? g:=λb hb hfx=>by
  obtain ⟨q1,q2⟩:=hci b hb
  have e:=Gb (H:=st.hp) (λb hb=>by have:=hlt b hb;omega) q1
  rw [q2] at e
  obtain ⟨k1,k2,k3⟩:=hs.keep (F0 ns b) (by omega) (by rw [e];exact hfx)
  rw [Kr hb] at k1 k3
  refine ⟨by simp only [Γ2,Ctx.back,if_pos hb];exact k1,?_,k3⟩
  have e5:A2 Hc (F0 ns b)=some (Hc[F0 ns b]'(by omega)).shp:=by
   simp only [A2]
   rw [List.getElem?_eq_getElem (by omega)]
   rfl
  rw [<-e,<-k2,e5]
  simp only [A2,g1 b hb,Option.map_some,Blk.rn_shp]
 have M:T7 Γ (A2 st.hp) w Γ2 (A2 H2) w' (λc=>c<L/\c∉ks):=by
  have key:∀ c,c<L->c∉ks->Γ2.nm c = Γ.nm c/\A2 H2 c=A2 st.hp c/\∀ g,Γ.nm c=some g->w'.shape? g=w.shape? g:=λc hc hck=>by
   by_cases hcn:c∈ns
   ·exact hkeep c hcn (hks' c hcn hck)
   ·refine ⟨by simp only [Γ2,Ctx.back,if_neg hcn,if_pos hc],?_,λg hg=>D1 (hold c g hcn hg)⟩
    rw [<-kb2 c]
    simp only [A2,g2 c hc hcn]
  exact ⟨hst,hs.sub,λc hc=>(key c hc.1 hc.2).1,λc hc=>(key c hc.1 hc.2).2.1,λc g hc hg=>(key c hc.1 hc.2).2.2 g hg,rfl⟩
 have hyv2:Γ2.yv = Γ1.yv:=by have:=hs.yv;exact this.symm
 have hr2:HR Γ2 H2 w':=by
  refine ⟨λb b' g h1 h2=>?_,λb g h=>?_,hH1.stlt,λb hb c hcc=>?_,λb hb=>?_⟩
  ·simp only [Γ2,Ctx.back] at h1 h2
   have case1:∀ x y,x∈ns->Γ1.nm (F0 ns x)=some g->y∉ns->Γ.nm y=some g->False:=λx y hx e1 hy' e2=>by
    rcases hown _ g e1 with ⟨q1,q2⟩ | q
    ·have:=S.hr.inj _ _ g q2 e2
     exact hy' (this ▸ List.getElem_mem q1)
    ·have:=(S.hr.lt y g e2).2.1;omega
   have case2:∀ x i,Γ.nm x=some g->¬ i<ns.length->Γ1.nm i=some g->False:=λx i e1 hi e2=>by
    rcases hown _ g e2 with ⟨q1,_⟩ | q
    ·exact hi q1
    ·have:=(S.hr.lt x g e1).2.1;omega
   split at h1
   ·rename_i hb
    split at h2
    ·rename_i hb'
     have:=hH1.inj _ _ g h1 h2
     rw [<-(hci b hb).2,<-(hci b' hb').2]
     simp only [this]
    ·rename_i hb'
     split at h2
     ·exact (case1 b b' hb h1 hb' h2).elim
     ·split at h2
      ·cases h2
      ·have:=hH1.inj _ _ g h1 h2
       have:=(hci b hb).1;omega
   ·rename_i hb
    split at h1
    ·rename_i hbL
     split at h2
     ·rename_i hb';exact (case1 b' b hb' h2 hb h1).elim
     ·split at h2
      ·exact S.hr.inj b b' g h1 h2
      ·split at h2
       ·cases h2
       ·exact (case2 b _ h1 (by omega) h2).elim
    ·rename_i hbL
     split at h1
     ·cases h1
     ·split at h2
      ·rename_i hb'
       have:=hH1.inj _ _ g h1 h2
       have:=(hci b' hb').1;omega
      ·split at h2
       ·exact (case2 b' _ h2 (by omega) h1).elim
       ·have:=hH1.inj _ _ g h1 h2;omega
  ·simp only [Γ2,Ctx.back] at h ⊢
   split at h
   ·rename_i hb
    have:=hH1.lt _ g h
    have:=hlt b hb
    exact ⟨by omega,(hH1.lt _ g h).2.1,(hH1.lt _ g h).2.2⟩
   ·split at h
    ·rename_i hbL
     have h1:=S.hr.lt b g h
     refine ⟨by omega,by have:=hs.size;omega,λhs1=>?_⟩
     rcases hs.stnew g hs1 with q | q
     ·exact h1.2.2 q
     ·omega
    ·rename_i hbL
     split at h
     ·cases h
     ·rename_i hd'
      have h1:=hH1.lt _ g h
      refine ⟨?_,h1.2.1,h1.2.2⟩
      rw [hl2,hEl,if_neg hd']
      omega
  ·by_cases hbn:b∈ns
   ·have e:=g1 b hbn
    rw [List.getElem?_eq_getElem hb] at e
    simp only [Option.some.injEq] at e
    rw [e,Blk.rn_nms] at hcc
    obtain ⟨c',hc',rfl⟩:=List.mem_map.1 hcc
    have hi:=(hci b hbn).1
    exact (G c' (hH1.nms _ (by omega) c' hc') (glent _ hi c' hc')).2.2
   ·by_cases hbL:b<L
    ·have e:=g2 b hbL hbn
     rw [List.getElem?_eq_getElem hb,List.getElem?_eq_getElem (by rw [kb1,hL];exact hbL)] at e
     simp only [Option.some.injEq] at e
     rw [e] at hcc
     have:=((kb3 b (by rw [kb1,hL];exact hbL) (by omega)).1 c hcc).2
     have:=S.hr.nms b (by omega) c this
     omega
    ·obtain ⟨hd',h',e⟩:=g3 b (by omega) hb
     rw [List.getElem?_eq_getElem hb] at e
     simp only [Option.some.injEq] at e
     rw [e,Blk.rn_nms] at hcc
     obtain ⟨c',hc',rfl⟩:=List.mem_map.1 hcc
     exact (G c' (hH1.nms _ h' c' hc') (.inr hd')).2.2
  ·by_cases hbn:b∈ns
   ·have e:=g1 b hbn
    rw [List.getElem?_eq_getElem hb] at e
    simp only [Option.some.injEq] at e
    rw [e]
    have hi:=(hci b hbn).1
    refine (hH1.blk _ (by omega)).rn hyv2 (.inr λ_ h=>h) (by simp only [Γ2,Ctx.back,if_pos hbn]) (λc' hc'=>?_)
    have:=G c' (hH1.nms _ (by omega) c' hc') (glent _ hi c' hc')
    exact ⟨this.1,this.2.1⟩
   ·by_cases hbL:b<L
    ·have e:=g2 b hbL hbn
     rw [List.getElem?_eq_getElem hb,List.getElem?_eq_getElem (by rw [kb1,hL];exact hbL)] at e
     simp only [Option.some.injEq] at e
     rw [e]
     have q:=kb3 b (by rw [kb1,hL];exact hbL) (by omega)
     refine (q.2 b (S.hr.blk b (by omega))).mono M (by simp only [Γ2,Ctx.back,if_neg hbn,if_pos hbL]) (λg hg=>hold b g hbn hg) (λc hc=>?_)
     have:=q.1 c hc
     exact ⟨by have:=S.hr.nms b (by omega) c this.2;omega,this.1⟩
    ·obtain ⟨hd',h',e⟩:=g3 b (by omega) hb
     rw [List.getElem?_eq_getElem hb] at e
     simp only [Option.some.injEq] at e
     rw [e]
     refine (hH1.blk _ h').rn hyv2 (.inr λ_ h=>h) ?_ (λc' hc'=>?_)
     ·simp only [Γ2,Ctx.back,if_neg hbn,if_neg hbL,hd']
      simp
     ·have:=G c' (hH1.nms _ h' c' hc') (.inr hd')
      exact ⟨this.1,this.2.1⟩
 have hstp:Stp C Γ st.hp w Φ Γ2 H2 w' Φ1:=by
  refine ⟨hs.os,hs.tape,hs.output,hs.size,hs.sub,hs.stnew,λb g h=>?_,hs.foot,λg hg hng hp=>hs.frame g hg (λi hi=>?_) hp,rfl,by omega,λb hb hfx=>?_⟩
  ·simp only [Γ2,Ctx.back] at h
   split at h
   ·rename_i hb
    rcases hown _ g h with ⟨q1,q2⟩ | q
    ·have hh:ns[F0 ns b]=b:=(hci b hb).2
     rw [hh] at q2
     exact .inl ⟨by have:=hlt b hb;omega,q2⟩
    ·exact .inr q
   ·split at h
    ·exact .inl ⟨by omega,h⟩
    ·split at h
     ·cases h
     ·rcases hown _ g h with ⟨q1,_⟩ | q
      ·omega
      ·exact .inr q
  ·obtain ⟨_,q2⟩:=hΓc i g hi
   exact hng _ q2
  ·by_cases hbn:b∈ns
   ·exact hkeep b hbn hfx
   ·have hbk:b∉ks:=λh=>hbn (by rw [<-hks] at h;exact (List.mem_filter.1 h).1)
    exact ⟨M.nm b ⟨by omega,hbk⟩,M.shp b ⟨by omega,hbk⟩,λg hg=>M.hs b g ⟨by omega,hbk⟩ hg⟩
 have hsr:SR Γ2 H2 w' (I3 ks st.sl) tmps:=by
  obtain ⟨a1',a2,a3⟩:=Hh (Γ:=Γ) (sh:=A2 st.hp) (w:=w) ks st.sl
  refine ⟨by rw [a1'];exact S.sr.size,λc hc=>by have:=S.sr.nms c (a2 c hc).2;omega,λi hi=>?_⟩
  have hi':i<st.sl.length:=by rw [a1'] at hi;exact hi
  obtain ⟨U,e,q⟩:=S.sr.slot i hi'
  refine ⟨U,e,(a3 i hi hi' U q).mono M λc hc=>?_⟩
  have hm:=a2 c (B6.2 ⟨i,hi,hc⟩)
  exact ⟨by have:=S.sr.nms c hm.2;omega,hm.1⟩
 refine ⟨_,_,Γ2,Φ1,hk,hstp,⟨hr2,hsr,S.g.mono hst hs.sub,hi1,λb g h=>?_⟩,?_,λc hc=>?_⟩
 ·intro hp
  simp only [Γ2,Ctx.back] at h
  split at h
  ·exact hd1 _ g h hp
  ·split at h
   ·rcases hs.foot g hp with q | q
    ·exact S.dis b g h q
    ·have:=(S.hr.lt b g h).2.1;omega
   ·split at h
    ·cases h
    ·exact hd1 _ g h hp
 ·exact hv.rn hyv2 (.inr λ_ h=>h) (λc hc=>by
   have:=G c (hvn c hc) (gret c hc)
   exact ⟨this.1,this.2.1⟩)
 ·rw [PV.rn_nms] at hc
  obtain ⟨c',hc',rfl⟩:=List.mem_map.1 hc
  exact (G c' (hvn c' hc') (gret c' hc')).2.2
end
section
variable {σ R : Type} {r : R} {C : Cfg} {I : σ -> (Nat -> Prop) -> (Nat -> Prop) -> World -> Prop} {Γ : Ctx} {Φ : Nat -> Prop} {st : St σ} {a : Act} {w : World} {cl : D5} {yh : Yh σ} {yv : Value} {o : Oper}
structure Ask (C:Cfg) (I:σ->(Nat->Prop)->(Nat->Prop)->World->Prop) (cl:D5) (yh:Yh σ) (yv:Value):Prop where
 hI:HI I
 hC:X8 C cl
 hX:XOK C
 hy:OF C.P I yh yv
theorem VO {g b:Nat} {args:List PV} {pf:SV->List (List SV)->Bool × List (List SV)} {x:SV} (h:Ay3 C g args=some (pf,b,x)):C.Z g=some pf/\args=[.fl b,.s x]:=by
 unfold Ay3 at h
 split at h
 ·rename_i h1
  simp only [Option.some.injEq,Prod.mk.injEq] at h
  obtain ⟨rfl,rfl,rfl⟩:=h
  exact ⟨h1,rfl⟩
 ·cases h
theorem SI.like' {tmps:Array Value} (hI:HI I) (S:SI C I Γ Φ st tmps w) {w':World} (h:J2 w w'):SI C I Γ Φ st tmps w'/\Stp C Γ st.hp w Φ Γ st.hp w' Φ:=
 S.wide hI (St':=Γ.St) h.1.1 h.1.2 (λ_ h=>h) (λ_ h=>.inl h) (λg hg=>Nat.lt_of_lt_of_le (S.hr.stlt g hg) h.1.2) h.2.1 h.2.2.1 h.2.2.2
theorem JF {g b e sz:Nat} {v:Bool} {pf:SV->List (List SV)->Bool × List (List SV)} {x:SV} {els:List (List SV)} {Vs tmps:Array Value} {k:PV->St σ->Option R} (hI:HI I) (hz:IR C.P g pf) (S:SI C I Γ Φ st tmps w) (hb:st.hp[b]? = some (.arr v e sz els)) (hc:CR Γ (A2 st.hp) w [.fl b,.s x] Vs) (hp:(pf x els).1=true)
  (hk:k (.tup []) { sl:=st.sl,hp:=st.hp.set b (.arr v e sz (pf x els).2),s:=st.s } = some r):K8 C.P ((callFunc g Vs).run C.P w) (IH C I Γ Φ st tmps w k r):=by
 obtain ⟨U,e1,h1⟩:=hc.2 0 (by simp)
 obtain ⟨X,e2,h2⟩:=hc.2 1 (by simp)
 have hV:Vs = #[U,X]:=by
  have hs:Vs.size=2:=hc.1
  grind
 subst hV
 have hx:VS Γ.St w x X:=h2.inv_s
 obtain ⟨z1,z2⟩:=hz Γ.St w x X els hx hp
 have hsh:∀ {s:Shp},A2 st.hp b=some s->s = .arr v e sz els.length:=λh=>by
  simp only [A2,hb,Option.map_some,Blk.shp,Option.some.injEq] at h
  exact h.symm
 have h1':VP Γ (A2 st.hp) w (.fl b) U:=h1
 cases h1' with
 | flv _ e' sz' h=>
  have:=hsh h
  simp only [Shp.arr.injEq] at this
  obtain ⟨rfl,rfl,rfl,h0⟩:=this
  have h0:=List.length_eq_zero_iff.1 h0.symm
  refine (z1 h0).mono ?_
  rintro V w' ⟨rfl,hn,hl⟩
  have hset:st.hp.set b (.arr true e' sz' (pf x els).2)=st.hp:=by
   rw [hn]
   rw [h0] at hb
   apply List.ext_getElem?
   grind
  rw [hset] at hk
  obtain ⟨S1,hs1⟩:=S.like' hI hl
  exact ⟨_,_,Γ,Φ,hk,hs1,S1,Z5,by simp [PV.nms,B8]⟩
 | fl _ g0 v' e' sz' n cap h hv hg hcap hm hs=>
  have:=hsh h
  simp only [Shp.arr.injEq] at this
  obtain ⟨rfl,rfl,rfl,rfl⟩:=this
  have hne:¬ (v'=true/\els=[]):=by rintro ⟨q1,q2⟩;exact hv q1 (by rw [q2];rfl)
  obtain ⟨g',cur,hg2,hh,hsize,hlens,hels⟩:=S.hr.arr' hb hne
  obtain rfl:g0=g':=by rw [hg] at hg2;exact Option.some.inj hg2
  have hcs:cur.size=cap*sz':=by
   simp only [World.shape?,hh,Option.some.injEq,Prod.mk.injEq,true_and] at hs
   exact hs
  refine (z2 g0 cur e' sz' cap hh hcs hcap hm (S.hr.lt b g0 hg).2.2 S.hr.stlt hlens hels).mono ?_
  rintro V w' ⟨rfl,hlen,w1,cur',q1,q2,q3,q4,q5,q6,q7,q8,q9,q10⟩
  have hshp:(Blk.arr v' e' sz' (pf x els).2).shp=(Blk.arr v' e' sz' els).shp:=by simp only [Blk.shp,hlen]
  have hsw:w1.shape? g0=w.shape? g0:=by simp only [World.shape?,q1,hh,q2]
  have hle:w.heap.size<=w1.heap.size:=by omega
  have hst:=CP (C:=C) S.hr hb hg hshp q3 hsw hle q5 q6 q7
  have hhr:=NI S.hr hb hg hshp q3 hsw hle (.inr ⟨λhz=>hne ⟨hz.1,by
    have:=congrArg List.length hz.2
    rw [hlen] at this
    exact List.length_eq_zero_iff.1 this⟩,g0,cur',hg,q1,by rw [hlen,q2];exact hsize,q8,q9⟩) (by simp [Blk.nms])
  have S1:=S.step hI (hst.lift Φ) (λk hk=>q3 k (λek=>S.dis b g0 hg (ek ▸ hk))) hhr (S.sr.mono (Dz S.hr hb hg hshp q3 hsw) (λc hc=>⟨trivial,by simpa using S.sr.nms c hc⟩))
  obtain ⟨S2,hs2⟩:=S1.like' hI q10
  exact ⟨_,_,Γ,Φ,hk,(hst.lift Φ).trans hs2,S2,Z5,by simp [PV.nms,B8]⟩
theorem Su {g:Nat} {args:List PV} {Vs tmps:Array Value} {k:PV->St σ->Option R} (A:Ask C I cl yh yv) (hyv:Γ.yv=yv) (h:Nq C cl yh g args st k=some r) (S:SI C I Γ Φ st tmps w) (hc:CR Γ (A2 st.hp) w args Vs) (hn:∀ c∈B8 args,c<st.hp.length) :
  K8 C.P ((callFunc g Vs).run C.P w) (IH C I Γ Φ st tmps w k r):=by
 unfold Nq at h
 split at h
 ·rename_i pf hX
  split at h
  ·rename_i hna
   obtain ⟨ret,Hc,hpf,h⟩:=W0 h
   have hpf:G1 (pf (I9 st.hp args))=some (ret,Hc):=by
    cases hx:C.xp g with
    | true=>rw [hx] at hpf;exact (X5 hpf).1
    | false=>rw [hx] at hpf;exact hpf
   obtain ⟨h1,h2⟩:=B5 h
   exact JE A.hI A.hX S hc hX hpf (List.isEmpty_iff.1 hna) (by simpa only [Bool.or_eq_true,Bool.not_eq_true',Bool.and_eq_true] using h1) h2
  ·cases h
 ·split at h
  ·rename_i pf b x hZ
   obtain ⟨hZ',rfl⟩:=VO hZ
   split at h
   ·rename_i v e sz els hb
    obtain ⟨h1,h2⟩:=B5 h
    exact JF A.hI (A.hX.z g pf hZ') S hb hc h1 h2
   ·cases h
  dsimp only at h
  split at h
  ·rename_i hl
   split at h
   ·rename_i hcl
    have key:CR Γ (A2 st.hp) w (cond (C.lend g) args (I9 st.hp args)) Vs/\∀ c∈B8 (cond (C.lend g) args (I9 st.hp args)),c<st.hp.length:=by
     cases hlg:C.lend g with
     | true=>exact ⟨hc,hn⟩
     | false=>
      rw [hlg] at hl
      have hr:Jx args=false:=by simpa using hl
      obtain ⟨q1,q2⟩:=hc.snap_plain hr
      grind
    split at h
    ·rename_i pf hY
     obtain ⟨ret,Hc,hpf,h⟩:=W0 h
     refine Sv (s':=st.s) A.hI A.hX.y A.hy hyv S key.1 key.2 hcl ?_ h
     simp only [clY,hY]
     rw [show G1 (pf _ (L2 st.hp _))=some (ret,Hc) from hpf]
    ·split at h
     ·rename_i ret Hc s' hcall
      exact Sv A.hI A.hC A.hy hyv S key.1 key.2 hcl hcall h
     ·cases h
   ·cases h
  ·split at h
   ·rename_i hna
    split at h
    ·rename_i ret Hc u hcall
     split at h
     ·rename_i hret
      obtain ⟨h1,h2⟩:=B5 h
      exact JC A.hI A.hC S hc (List.isEmpty_iff.1 hna) hcall hret h1 h2
     ·cases h
    ·cases h
   ·cases h
theorem CR.append {sh:Nat->Option Shp} {x y:List PV} {X Y:Array Value} (hx:CR Γ sh w x X) (hy:CR Γ sh w y Y):CR Γ sh w (x++y) (X++Y):=by
 refine ⟨by rw [Array.size_append,List.length_append,hx.1,hy.1],λj hj=>?_⟩
 rw [List.length_append] at hj
 by_cases h:j<x.length
 ·obtain ⟨U,e,k⟩:=hx.2 j h
  grind
 ·obtain ⟨U,e,k⟩:=hy.2 (j-x.length) (by omega)
  refine ⟨U,by rw [Array.getElem?_append_right (by rw [hx.1];omega),hx.1];exact e,?_⟩
  grind
theorem K4 (x y:List PV):B8 (x++y)=B8 x++B8 y:=by
 induction x with
 | nil=>rfl
 | cons a x ih=>simp [B8,ih]
theorem VP.inv_fn' {sh:Nat->Option Shp} {V:Value} {f:Fn} {x y:List SV} (h:VP Γ sh w (.s (.fn f x y)) V):∃ A B,V = .func f A B/\CR Γ sh w (x.map .s) A/\CR Γ sh w (y.map .s) B:=by
 have hs:=h.inv_s
 cases hs with
 | fn _ _ _ A B As Bs hf hA hB ha hb hx hy=>
  refine ⟨A,B,rfl,⟨by simpa using hA,λj hj=>?_⟩,⟨by simpa using hB,λj hj=>?_⟩⟩
  ·have hj':j<x.length:=by simpa using hj
   exact ⟨As j,ha j hj',by rw [List.getElem_map];exact .s _ _ (hx j hj')⟩
  ·have hj':j<y.length:=by simpa using hj
   exact ⟨Bs j,hb j hj',by rw [List.getElem_map];exact .s _ _ (hy j hj')⟩
theorem VP.inv_fnr' {sh:Nat->Option Shp} {V:Value} {f:Fn} {x y:List PV} (h:VP Γ sh w (.fnr f x y) V):∃ A B,V = .func f A B/\CR Γ sh w x A/\CR Γ sh w y B:=by
 cases h with
 | fnr _ _ _ A B As Bs hf hA hB ha hb hx hy=>exact ⟨A,B,rfl,⟨hA,λj hj=>⟨As j,ha j hj,hx j hj⟩⟩,⟨hB,λj hj=>⟨Bs j,hb j hj,hy j hj⟩⟩⟩
theorem CI {sh:Nat->Option Shp}:∀ {args:List PV} {Vs:List Value},Fo args=true->args.length=Vs.length->(∀ j (h:j<args.length),∃ U,Vs[j]? = some U/\VP Γ sh w (args[j]) U)->∀ j (h:j<args.length),∃ U,Vs[j]? = some U/\VP Γ (λ_=>none) w (args[j]) U
 | [],Vs,_,_,_=>λj h=>by simp at h
 | v::r,[],_,hl,_=>by simp at hl
 | v::r,U::Us,hs,hl,hc=>by
  have h0:VP Γ sh w v U:=by
   obtain ⟨U',e,k⟩:=hc 0 (by simp)
   grind
  have hr:∀ j (h:j<r.length),∃ U,Us[j]? = some U/\VP Γ sh w (r[j]) U:=λj hj=>by
   obtain ⟨U',e,k⟩:=hc (j+1) (by simpa using hj)
   grind
  have key:Fo r=true/\VP Γ (λ_=>none) w v U:=by
   unfold Fo at hs
   split at hs
   ·grind
   ·rename_i he;cases he
    exact ⟨hs,.s _ _ h0.inv_s⟩
   ·rename_i l r' he
    cases he
    simp only [Bool.and_eq_true,Option.isSome_iff_exists] at hs
    obtain ⟨⟨vs,hvs⟩,hs⟩:=hs
    refine ⟨hs,?_⟩
    obtain ⟨A,rfl,hA,hcA⟩:=h0.inv_agg
    refine VP.mk_agg hA λj hj=>?_
    obtain ⟨U,e,k⟩:=hcA j hj
    refine ⟨U,e,?_⟩
    have:(l[j]).nms=[]:=by
     have:∀ (l:List PV) vs,Kd l=some vs->∀ v∈l,v.nms=[]:=by
      intro l
      induction l with
      | nil=>intro _ _ v hv;simp at hv
      | cons x l ih=>
       intro vs h v hv
       simp only [Kd] at h
       split at h
       ·rename_i a b ha hb
        rcases List.mem_cons.1 hv with rfl | hv
        ·unfold PV.sv? at ha
         split at ha
         ·rfl
         ·rfl
         grind
        grind
       grind
     exact this l vs hvs _ (List.getElem_mem hj)
    exact k.mono (Γ':=Γ) (ok:=λ_=>False) ⟨λ_ _=>rfl,λ_ h=>h,λ_ h=>h.elim,λ_ h=>h.elim,λ_ _ h=>h.elim,rfl⟩ (by rw [this];simp)
   grind
  intro j hj
  cases j with
  | zero=>exact ⟨U,rfl,by simpa using key.2⟩
  | succ j=>
   obtain ⟨U',e,k⟩:=CI key.1 (by simpa using hl) hr j (by simpa using hj)
   grind
theorem JD {f:PV} {FV:Value} {args:List PV} {Vs tmps:Array Value} {k:PV->St σ->Option R} (A:Ask C I cl yh yv) (hyv:Γ.yv=yv) (h:Sw C cl yh f args st k=some r) (S:SI C I Γ Φ st tmps w) (hf:VP Γ (A2 st.hp) w f FV) (hfn:∀ c∈f.nms,c<st.hp.length)
  (hc:CR Γ (A2 st.hp) w args Vs) (hn:∀ c∈B8 args,c<st.hp.length) :
  K8 C.P ((do let d <-Deferred.ofValue FV Vs;invoke d.target d.args).run C.P w) (IH C I Γ Φ st tmps w k r):=by
 unfold Sw at h
 split at h
 ·rename_i g first caps
  obtain ⟨F,B,rfl,h1,h2⟩:=hf.inv_fn'
  have:=Su A hyv h S ((h1.append hc).append h2) (λc hc=>by
   rw [K4,K4,Xu,Xu] at hc
   simp only [List.nil_append,List.append_nil] at hc
   exact hn c hc)
  simpa [Deferred.ofValue,invoke] using this
 ·rename_i g first caps
  obtain ⟨F,B,rfl,h1,h2⟩:=hf.inv_fnr'
  have:=Su A hyv h S ((h1.append hc).append h2) (λc hc=>by
   rw [K4,K4] at hc
   simp only [List.mem_append] at hc
   simp only [PV.nms,List.mem_append] at hfn
   rcases hc with (hc | hc) | hc
   ·exact hfn c (.inl hc)
   ·exact hn c hc
   ·exact hfn c (.inr hc))
  simpa [Deferred.ofValue,invoke] using this
 ·split at h
  ·rename_i hsv
   unfold ydK at h
   split at h
   ·rename_i b s' hyb
    have hFV:FV=yv:=by
     cases hf
     exact hyv
    subst hFV
    refine (A.hy args st.s b s' hyb hsv Γ Φ w Vs S.inv S.hr.stlt ⟨hc.1,?_⟩).mono ?_
    ·intro j hj
     obtain ⟨U,e,q⟩:=CI (Vs:=Vs.toList) hsv (by simpa using hc.1.symm) (λj hj=>by obtain ⟨U,e,k⟩:=hc.2 j hj;exact ⟨U,by simpa using e,k⟩) j hj
     exact ⟨U,by simpa using e,q⟩
    ·rintro V w' ⟨rfl,St',Φ',hi,q1,q2,q3,q4,q5,q6,q7,q8,q9⟩
     have hfoot:=A.hI.foot _ _ _ _ S.inv
     have hold:∀ b g,Γ.nm b=some g->w'.heap[g]? = w.heap[g]?:=λb g hg=>q4 g (S.hr.lt b g hg).2.1 (S.dis b g hg)
     have hst:∀ g,Γ.St g->w'.heap[g]? = w.heap[g]?:=λg hg=>q4 g (S.hr.stlt g hg) (λhp=>(hfoot g hp).2 hg)
     let Γ2:Ctx:={ Γ with St:=St' }
     have M:T7 Γ (A2 st.hp) w Γ2 (A2 st.hp) w' (λ_=>True):=⟨hst,q1,λ_ _=>rfl,λ_ _=>rfl,λb g _ hg=>D1 (hold b g hg),rfl⟩
     have hr2:HR Γ2 st.hp w':=by
      refine ⟨S.hr.inj,λb g hg=>?_,q9,S.hr.nms,λb hb=>(S.hr.blk b hb).mono M rfl (λg hg=>hold b g hg) (λ_ _=>trivial)⟩
      have:=S.hr.lt b g hg
      refine ⟨this.1,by omega,λh=>?_⟩
      rcases q2 g h with h | h
      ·exact this.2.2 h
      ·omega
     refine ⟨_,_,Γ2,Φ',h,⟨q6,q7,q8,q5,q1,q2,λb g hg=>.inl ⟨(S.hr.lt b g hg).1,hg⟩,q3,λg hg _ hp=>q4 g hg hp,rfl,Nat.le_refl _,λb hb _=>⟨rfl,rfl,λg hg=>D1 (hold b g hg)⟩⟩,
      ⟨hr2,S.sr.mono M (λc hc=>⟨trivial,S.sr.nms c hc⟩),S.g.mono hst q1,hi,λb g hg hp=>?_⟩,.bool _,by simp [PV.nms]⟩
     rcases q3 g hp with h | h
     ·exact S.dis b g hg h
     ·have:=(S.hr.lt b g hg).2.1;omega
   ·cases h
  ·cases h
 ·cases h
def Nxt (C:Cfg) (I:σ->(Nat->Prop)->(Nat->Prop)->World->Prop) (Γ:Ctx) (Φ:Nat->Prop) (H:List Blk) (w:World) (ds:List Deferred) (k:St σ->Option R) (r:R) (next:Act->World->Prop):Prop:=
 ∀ st' a' w' Γ' Φ',k st'=some r->Stp C Γ H w Φ Γ' st'.hp w' Φ'->SI C I Γ' Φ' st' a'.tmps w'->a'.defers=ds->next a' w'
theorem put_defers (a:Act) (d:Option Tmp) (v:Value):(a.put d v).defers=a.defers:=by cases d<;>rfl
theorem GP {ro:Option Nat} {n:Nat} {k:St σ->Option R} {next:Act->World->Prop} {Q:Exit->Act->World->Prop} (A:Ask C I cl yh yv) (hyv:Γ.yv=yv) (h:opK C cl yh o st k=some r) (S:SI C I Γ Φ st a.tmps w) (hN:Nxt C I Γ Φ st.hp w a.defers k r next) :
  o.wpIn (E5 ro) n C.P a w next Q:=by
 refine ⟨λ_ _=>trivial,?_⟩
 have hnd:∀ c,o.op≠.defer c:=λc e=>by simp [opK,e] at h
 rw [Oper.semAt_eq _ _ _ hnd]
 by_cases hq:Rg o.op=true
 ·obtain ⟨c,hop⟩:∃ c,o.op = .call c:=by
   unfold Rg at hq
   split at hq
   ·exact ⟨_,‹_›⟩
   ·cases hq
  have h':=h
  simp only [opK,hop] at h'
  split at h'
  ·rename_i b hb;rw [hop] at hq;simp [Rg,hb] at hq
  ·rename_i f hf
   obtain ⟨hc,hn⟩:=S.list c.args
   have:=JD A hyv h' S (S.opnd f).1 (S.opnd f).2 hc hn
   have he:execOp a.eval o=(do let d <-Deferred.ofValue (a.eval f) (c.args.map a.eval);invoke d.target d.args):=by simp only [execOp,hop,resolve,hf]
   rw [he]
   refine this ro n o a next Q ?_
   rintro V w' ⟨v,st',Γ',Φ',k1,k2,k3,k4,k5⟩
   exact hN _ (a.put o.dst V) w' Γ' Φ' k1 k2 ⟨k3.hr,k3.sr.put (ds:=a.defers) o k4 k5,k3.g,k3.inv,k3.dis⟩ (put_defers _ _ _)
  ·cases h'
 ·obtain ⟨V,w',Γ',st',h1,h2,h3,h4⟩:=KU A.hI (by simpa using hq) h S
  have hn:=hN st' (a.put o.dst V) w' Γ' Φ h1 h4 h3 (put_defers _ _ _)
  rcases h2 with h2 | ⟨rfl,h2⟩
  ·rw [h2];exact hn
  ·rw [h2];exact hn
theorem SR.set {Γ:Ctx} {H:List Blk} {sl:List PV} {tmps:Array Value} (h:SR Γ H w sl tmps) (g:Nat) {v:PV} (hv:∀ V,tmps[g]? = some V->VP Γ (A2 H) w v V) (hn:∀ c∈v.nms,c<H.length):SR Γ H w (sl.set g v) tmps:=by
 refine ⟨by simpa using h.size,λc hc=>?_,λi hi=>?_⟩
 ·obtain ⟨j,hj,hc⟩:=B6.1 hc
  rw [List.getElem_set] at hc
  split at hc
  ·grind
  ·exact h.nms c (B6.2 ⟨j,by simpa using hj,hc⟩)
 ·have hi':i<sl.length:=by simpa using hi
  obtain ⟨U,e1,e2⟩:=h.slot i hi'
  grind
theorem GQ {ro:Option Nat} {n:Nat} {Q:Exit->Act->World->Prop} {all:Array Oper} (A:Ask C I cl yh yv):∀ (rest:List Oper) {Γ:Ctx} {Φ:Nat->Prop} {st:St σ} {a:Act} {w:World} {k:St σ->Option R},Γ.yv=yv->Bk C cl yh all rest st k=some r->SI C I Γ Φ st a.tmps w->
  Nxt C I Γ Φ st.hp w a.defers k r (λa' w'=>Q .normal a' w')->wpListIn (E5 ro) n C.P all Q rest a w
 | [],Γ,Φ,st,a,w,k,hyv,h,S,hN=>hN st a w Γ Φ h (Stp.refl S.hr) S rfl
 | o::rest,Γ,Φ,st,a,w,k,hyv,h,S,hN=>by
  have run:∀ {st:St σ},SI C I Γ Φ st a.tmps w->Nxt C I Γ Φ st.hp w a.defers k r (λa' w'=>Q .normal a' w')->opK C cl yh o st (λst'=>Bk C cl yh all rest st' k)=some r->o.wpIn (E5 ro) n C.P a w (wpListIn (E5 ro) n C.P all Q rest) Q:=λS hN h=>
   GP A hyv h S λst' a' w' Γ' Φ' h1 h2 h3 h4=>GQ A rest (h2.yv.trans hyv) h1 h3 λst2 a2 w2 Γ2 Φ2 k1 k2 k3 k4=>hN st2 a2 w2 Γ2 Φ2 k1 (h2.trans k2) k3 (k4.trans h4)
  have skip:∀ {st:St σ},SI C I Γ Φ st a.tmps w->Nxt C I Γ Φ st.hp w a.defers k r (λa' w'=>Q .normal a' w')->Bk C cl yh all rest { st with sl:=V8 o.dst (.tup []) st.sl } k=some r->wpListIn (E5 ro) n C.P all Q rest (a.put o.dst undef) w:=fun {st} S hN h=>
   GQ A rest (st:={ st with sl:=V8 o.dst (.tup []) st.sl }) hyv h (S.put (o:=o) Z5 (by simp [PV.nms,B8])) (by rw [put_defers];exact hN)
  simp only [wpListIn]
  simp only [Bk] at h
  split at h
  ·rename_i hg
   have hw:Region.wanted o (yielded all a.tmps)=true:=by simp [Region.wanted,hg]
   grind
  ·rename_i j want hg
   split at h
   ·rename_i g hjg
    have hyd1:∀ b,a.tmps[g]? = some (.bool b)->yielded all a.tmps j=some b:=λb e=>by simp [yielded,hjg,e]
    have hyd0:(∀ b,a.tmps[g]?≠some (.bool b))->yielded all a.tmps j=none:=λhne=>by
     simp only [yielded,hjg,Option.bind_some]
    have hslot:∀ v,st.sl.getD g (.tup [])=v->∀ V,a.tmps[g]? = some V->VP Γ (A2 st.hp) w v V:=λv hv V hV=>by
     have hlt:g<st.sl.length:=by rw [<-S.sr.size];exact (Array.getElem?_eq_some_iff.1 hV).1
     obtain ⟨U,e1,e2⟩:=S.sr.slot g hlt
     grind
    split at h
    ·rename_i b hb
     have hlt:g<st.sl.length:=Decidable.byContradiction λhge=>by grind
     obtain ⟨U,e1,e2⟩:=S.sr.slot g hlt
     have hU:=(hslot _ hb U e1).inv_bool
     subst hU
     have hyd':yielded all a.tmps j=some b:=hyd1 b e1
     have S':SI C I Γ Φ { st with sl:=st.sl.set g (.s (.bool b)) } a.tmps w:=⟨S.hr,S.sr.set g (hslot _ hb) (by simp [PV.nms]),S.g,S.inv,S.dis⟩
     have hsp:(if (b==want)=true then opK C cl yh o { st with sl:=st.sl.set g (.s (.bool b)) } (λst'=>Bk C cl yh all rest st' k) else Bk C cl yh all rest { st with sl:=V8 o.dst (.tup []) (st.sl.set g (.s (.bool b))) } k)=some r:=by
      cases b<;>exact h
     by_cases hbw:b=want
     ·rw [if_pos (by simpa using hbw)] at hsp
      rw [if_pos (by simp [Region.wanted,hg,hyd',hbw])]
      grind
     ·rw [if_neg (by simpa using hbw)] at hsp
      rw [if_neg (by simp [Region.wanted,hg,hyd',hbw])]
      exact ⟨λ_ _=>trivial,skip S' hN hsp⟩
    ·rename_i hb
     have hyd':yielded all a.tmps j=none:=hyd0 λb hbb=>by
      obtain ⟨B,e,_⟩:=(hslot _ hb _ hbb).inv_tup
      cases e
     rw [if_neg (by simp [Region.wanted,hg,hyd'])]
     exact ⟨λ_ _=>trivial,skip S hN h⟩
    grind
   ·cases h
end
section quiet
variable {F : Fence} {n : Nat} {P : Program} {ops : Array Oper} {md : Region.Mode} {K : World -> Prop}
theorem VH {c:Code} {Q:Exit->Act->World->Prop} {a:Act} {w:World} (J:Nat->Act->World->Prop) (N:Nat) (h₀:J N a w)
  (round:∀ m a w,J m a w->c.wpIn F n P (Exit.then (λa' w'=>∃ m',m'<m/\J m' a' w') Q) a w):(Code.loop c).wpIn F n P Q a w:=by
 intro b k cs hro hb hr
 have key:∀ j a w,J j a w->∃ e a' w',Q e a' w'/\ArrivesIn (Machine.fenced P F) P (lone (b.atR a (.code c::.inLoop c::k)) cs w) b k cs e a' w':=by
  intro j
  induction j using Nat.strongRecOn with
  | _ j ih=>
   intro a w hI
   obtain ⟨e,a₁,w₁,hq,harr⟩:=round j a w hI b (.inLoop c::k) cs hro hb hr
   cases e with
   | normal=>
    obtain ⟨m,hlt,hI₁⟩:=hq
    obtain ⟨e₂,a₂,w₂,hq₂,harr₂⟩:=ih m hlt a₁ w₁ hI₁
    exact ⟨e₂,a₂,w₂,hq₂,.of_steps (StepsIn.trans harr (.one (fenced_calm hb hr rfl) stepR_inLoop)) harr₂⟩
   | exit id=>exact ⟨_,a₁,w₁,hq,.pass (x:=.inLoop c) rfl (λ_ _=>.inl (by simp)) harr⟩
   | goto l=>exact ⟨_,a₁,w₁,hq,.pass (x:=.inLoop c) rfl (λ_ _=>.inl (by simp)) harr⟩
   | ret=>exact ⟨_,a₁,w₁,hq,.pass (x:=.inLoop c) rfl (λ_ _=>.inl (by simp)) harr⟩
   | panic ch=>exact ⟨_,a₁,w₁,hq,.pass (x:=.inLoop c) rfl (λ_ _=>.inl (by simp)) harr⟩
   | outgrown=>exact ⟨_,a₁,w₁,hq,.pass (x:=.inLoop c) rfl (λ_ _=>.inl (by simp)) harr⟩
 obtain ⟨e,a',w',hq,harr⟩:=key N a w h₀
 exact ⟨e,a',w',hq,.of_steps (.one (fenced_calm hb hr rfl) stepR_loop) harr⟩
theorem X6 {b:Frame} {a:Act} {k:List Item} {cs:List Frame} {w:World} {c:Code}:step P (lone (b.atR a (.code (.scope c)::k)) cs w) = .next (lone (b.atR a (.code c::.inScope c::k)) cs w):=
 step_lone_go (by simp [stepG,stepG.exec,Frame.atR])
theorem Zx {b:Frame} {a:Act} {k:List Item} {cs:List Frame} {w:World} {c:Code}:step P (lone (b.atR a (.inScope c::k)) cs w) = .next (lone (b.atR a k) cs w):=
 step_lone_go (by simp [stepG,stepG.exec,Frame.atR])
theorem NG {c:Code} {Q:Exit->Act->World->Prop} {a:Act} {w:World} (h:c.wpIn F n P (λe a w=>(∀ l,e≠.goto l)/\Q e a w) a w):(Code.scope c).wpIn F n P Q a w:=by
 intro b k cs hro hb hr
 have h0:(lone (b.atR a (.code (.scope c)::k)) cs w).fenced P F:=fenced_calm hb hr rfl
 obtain ⟨e,a₁,w₁,⟨hg,hq⟩,harr⟩:=h b (.inScope c::k) cs hro hb hr
 cases e with
 | normal=>exact ⟨.normal,a₁,w₁,hq,.head h0 X6 (StepsIn.trans harr (.one (fenced_calm hb hr rfl) Zx))⟩
 | exit id=>
  have hx:exitTo id (.inScope c::k)=exitTo id k:=by simp [exitTo]
  exact ⟨.exit id,a₁,w₁,hq,λk' hk=>.head h0 X6 (harr.1 k' (by rw [hx];exact hk)),
   λhr' hk=>let ⟨k₁,h1,h2⟩:=harr.2 hr' (by rw [hx];exact hk);⟨k₁,h1,.head h0 X6 h2⟩⟩
 | goto l=>exact absurd rfl (hg l)
 | ret=>exact ⟨_,a₁,w₁,hq,.of_steps (.one h0 X6) harr⟩
 | panic ch=>exact ⟨_,a₁,w₁,hq,.of_steps (.one h0 X6) harr⟩
 | outgrown=>exact ⟨_,a₁,w₁,hq,.of_steps (.one h0 X6) harr⟩
end quiet
section
variable {σ R : Type} {r : R} {C : Cfg} {I : σ -> (Nat -> Prop) -> (Nat -> Prop) -> World -> Prop} {Γ : Ctx} {Φ : Nat -> Prop} {st : St σ} {a : Act} {w : World} {cl : D5} {yh : Yh σ} {yv : Value} {o : Oper}
theorem SI.like (hI:HI I) (S:SI C I Γ Φ st a.tmps w) {w':World} (h:J2 w w'):SI C I Γ Φ st a.tmps w'/\Stp C Γ st.hp w Φ Γ st.hp w' Φ:=
 S.like' hI h
def AQ:PV->Value
 | .s (.bool b)=>.bool b
 | .s (.int k n)=>.int k n
 | .s (.str l)=>.string ⟨l.toArray⟩
 | _=>undef
def A01:PV->Value
 | .tup l=>.tuple (l.map AQ).toArray
 | v=>AQ v
theorem JK {Γ:Ctx} {sh:Nat->Option Shp} {w:World} {v:PV} {V:Value} (h:VP Γ sh w v V) (hd:v.det1=true):V=AQ v:=by
 cases h with
 | s x V hx=>
  cases hx<;>simp [PV.det1,SV.det] at hd<;>simp [AQ]
 | _=>simp [PV.det1] at hd
theorem A02 {Γ:Ctx} {sh:Nat->Option Shp} {w:World} {v:PV} {V:Value} (h:VP Γ sh w v V) (hd:v.det=true):V=A01 v:=by
 cases h with
 | s x V hx=>exact JK (sh:=sh) (.s x V hx) hd
 | tup l A As hA ha hl=>
  simp only [PV.det,List.all_eq_true] at hd
  simp only [A01]
  congr 1
  apply Array.ext
  ·simp [hA]
  ·intro j h1 h2
   have hj:j<l.length:=by rw [<-hA];exact h1
   have e:=ha j hj
   rw [Array.getElem?_eq_getElem h1] at e
   simp only [Option.some.injEq] at e
   simp only [List.getElem_toArray,List.getElem_map]
   rw [e]
   exact JK (hl j hj) (hd _ (List.getElem_mem hj))
 | _=>simp [PV.det] at hd
theorem FS {Γ:Ctx} {sh:Nat->Option Shp} {w:World} {v:PV} (hd:v.det1=true):VP Γ sh w v (AQ v)/\v.nms=[]:=by
 cases v with
 | s x=>
  cases x<;>simp [PV.det1,SV.det] at hd
  ·exact ⟨.s _ _ (.bool _),rfl⟩
  ·exact ⟨.s _ _ (.int _ _),rfl⟩
  ·rename_i l
   have:=VS.str (St:=Γ.St) (w:=w) (⟨l.toArray⟩:ByteArray)
   simp only at this
   exact ⟨.s _ _ this,rfl⟩
 | _=>simp [PV.det1] at hd
theorem Bg0 {Γ:Ctx} {sh:Nat->Option Shp} {w:World} {v:PV} (hd:v.det=true):VP Γ sh w v (A01 v)/\v.nms=[]:=by
 cases v with
 | s x=>exact FS (v:=.s x) hd
 | tup l=>
  simp only [PV.det,List.all_eq_true] at hd
  refine ⟨VP.mk_tup (by simp) λj hj=>⟨AQ (l[j]),by simp [hj],(FS (hd _ (List.getElem_mem hj))).1⟩,?_⟩
  simp only [PV.nms]
  rw [List.eq_nil_iff_forall_not_mem]
  intro c hc
  obtain ⟨j,hj,hc⟩:=B6.1 hc
  rw [(FS (Γ:=Γ) (sh:=sh) (w:=w) (hd _ (List.getElem_mem hj))).2] at hc
  simp at hc
 | _=>simp [PV.det] at hd
theorem Bg1 {v:PV} (hd:v.det=true) (f:Nat->Nat):v.rn f=v:=by
 cases v with
 | s x=>rfl
 | tup l=>
  simp only [PV.det,List.all_eq_true] at hd
  simp only [PV.rn]
  congr 1
  induction l with
  | nil=>rfl
  | cons a r ih=>
   simp only [rnL]
   have ha:=hd a (by simp)
   have:a.rn f=a:=by cases a<;>simp [PV.det1] at ha<;>rfl
   grind
 | _=>simp [PV.det] at hd
theorem U9 {P:Program} {g:Nat} {Vs:Array Value} {w:World} (h:Rl P g=true):(callFunc g Vs).run P w = .ok (.enter g Vs) w:=by
 unfold Rl at h
 split at h
 ·rename_i fn hf
  simp only [Bool.and_eq_true,Bool.not_eq_true',Option.isSome_iff_exists] at h
  obtain ⟨⟨c,hb⟩,hn⟩:=h
  have hn':¬ fn.name = "runtime.NumGoroutine":=by simpa using hn
  simp [callFunc,hf,hb,hn',Result.andThen]
 ·cases h
theorem Qb {P:Program} {ro:Option Nat} {n f:Nat} {Vs:Array Value} {w:World} {R:Value->World->Prop} (hrun:(callFunc f Vs).run P w = .ok (.enter f Vs) w) (h:K8 P ((callFunc f Vs).run P w) R):CallsIn (E5 ro) (n-1) P f Vs w λe w'=>∃ V,e = .returned V/\R V w':=by
 rw [hrun] at h
 have:=h ro n { op:=.move (.const undef),dst:=some 0,guard:=none,type:=0,after:=#[],pos:=default } { tmps:=#[undef],defers:=[] } (λa' w'=>∃ V,a'.tmps[0]? = some V/\R V w') (λ_ _ _=>False) (λV w' hR=>⟨V,by simp [Act.put],hR⟩)
 rw [Oper.uponIn_enter] at this
 refine this.2.mono λe w' he=>?_
 cases e with
 | returned v=>
  obtain ⟨V,e1,e2⟩:=he
  simp [Act.put] at e1
  grind
 | panicked c=>exact he.elim
 | outgrown=>obtain ⟨_,_,h⟩:=he;exact h.elim
theorem Ab9 {ro:Option Nat} {n:Nat} {k:St σ->Option R} (hI:HI I) (hX:XOK C) (hq:Gg C o.op=true) (h:opK C cl yh o st k=some r) (S:SI C I Γ Φ st a.tmps w) :
  ∃ V st',k st'=some r/\(∀ w',J2 w w'->o.quietAtIn (E5 ro) n C.P a (J2 w') w' V)/\SI C I Γ Φ st' (a.put o.dst V).tmps w/\Stp C Γ st.hp w noΦ Γ st'.hp w noΦ:=by
 obtain ⟨c,hop⟩:∃ c,o.op = .call c:=by
  unfold Gg at hq
  grind
 rw [hop] at hq
 simp only [Gg] at hq
 split at hq
 ·rename_i g hcal
  simp only [Bool.and_eq_true,Option.isSome_iff_exists] at hq
  obtain ⟨⟨hxp,pf,hpfx⟩,hent⟩:=hq
  simp only [opK,hop,hcal,opnd,Sw,Nq,hpfx,hxp,cond_true,List.map_nil,List.nil_append,List.append_nil] at h
  split at h
  ·rename_i hna
   obtain ⟨ret,Hc,hpf,h⟩:=W0 h
   obtain ⟨hpf,hdet,rfl⟩:=X5 hpf
   obtain ⟨h1,h2⟩:=B5 h
   simp only [List.map_nil,List.append_nil,Bg1 hdet] at h2
   have hv:=Bg0 (Γ:=Γ) (sh:=A2 st.hp) (w:=w) hdet
   refine ⟨A01 ret,_,h2,λw' hw'=>?_,S.put hv.1 (by rw [hv.2];simp),Stp.refl S.hr⟩
   obtain ⟨S',_⟩:=S.like hI hw'
   obtain ⟨hc,hn⟩:=S'.list c.args
   have hc1:=hc.snap S'.hr
   let Γc:Ctx:={ Γ.all with nm:=λ_=>none }
   have hc2:CR Γc (A2 []) w' (I9 st.hp (c.args.toList.map (opnd C st.sl))) (c.args.map a.eval):=hc1.bare (List.isEmpty_iff.1 hna) (λ_ h=>h) rfl
   have hcall:=hX.x g pf _ ret [] hpfx hpf Γc w' _ (λ_=>rfl) (Ea (λ_=>rfl) (OH S')) (S'.g.mono (λ_ _=>rfl) (λ_ h=>Or.inl h)) hc2
   have hcalls:=Qb (ro:=ro) (n:=n) (U9 hent) hcall
   have hev:a.eval (.func g) = .func (.func g) #[] #[]:=rfl
   have he:execOp a.eval o=(do let d <-Deferred.ofValue (a.eval (.func g)) (c.args.map a.eval);invoke d.target d.args):=by simp only [execOp,hop,resolve,hcal]
   unfold Oper.quietAtIn
   rw [he,hev]
   have hrun:(do let d <-Deferred.ofValue (Value.func (.func g) #[] #[]) (c.args.map a.eval);invoke d.target d.args:Sem Next).run C.P w' = .ok (.enter g (c.args.map a.eval)) w':=by
    have:=U9 (P:=C.P) (Vs:=c.args.map a.eval) (w:=w') hent
    simpa [Deferred.ofValue,invoke] using this
   rw [hrun]
   refine ⟨rfl,λh=>(by simp [E5,Fence.wide] at h),hcalls.mono ?_⟩
   rintro e w'' ⟨V,rfl,Γ1,Φ1,hs,hH1,hvv,_⟩
   have:=A02 hvv hdet
   subst this
   exact ⟨rfl,⟨λg hg=>hs.frame g hg (λb=>by simp [Γc]) (λx=>x),hs.size⟩,hs.os,hs.tape,hs.output⟩
  ·cases h
 ·cases hq
def Out.exit':Out->Exit
 | .normal=>.normal
 | .exit id=>.exit id
 | .ret=>.ret
end
theorem FC {a b:Nat} (h:a<=b):Nat.ble a b=true:=by rw [Nat.ble_eq];exact h
theorem Qx {a b:Nat} (h:Nat.ble a b=true):a<=b:=by rw [Nat.ble_eq] at h;exact h
theorem J2.refl (w:World):J2 w w:=⟨⟨λ_ _=>rfl,Nat.le_refl _⟩,rfl,rfl,rfl⟩
theorem J2.trans {a b c:World} (h:J2 a b) (k:J2 b c):J2 a c:=
 ⟨⟨λg hg=>(k.1.1 g (Nat.lt_of_lt_of_le hg h.1.2)).trans (h.1.1 g hg),Nat.le_trans h.1.2 k.1.2⟩,k.2.1.trans h.2.1,k.2.2.1.trans h.2.2.1,k.2.2.2.trans h.2.2.2⟩
def Ig (D:Nat->Prop) (w w':World):Prop:=((∀ g,g<w.heap.size->¬ D g->w'.heap[g]? = w.heap[g]?)/\w.heap.size<=w'.heap.size)/\w'.os=w.os/\w'.tape=w.tape/\w'.output=w.output
theorem J2.x {D:Nat->Prop} {a b:World} (h:J2 a b):Ig D a b:=⟨⟨λg hg _=>h.1.1 g hg,h.1.2⟩,h.2⟩
theorem Ig.trans {D:Nat->Prop} {a b c:World} (h:Ig D a b) (k:Ig D b c):Ig D a c:=
 ⟨⟨λg hg hd=>(k.1.1 g (Nat.lt_of_lt_of_le hg h.1.2) hd).trans (h.1.1 g hg hd),Nat.le_trans h.1.2 k.1.2⟩,k.2.1.trans h.2.1,k.2.2.1.trans h.2.2.1,k.2.2.2.trans h.2.2.2⟩
def RQ (D:Nat->Prop) (q:Nat) (a b:World):Prop:=(q=1->J2 a b)/\(q=2->Ig D a b)
theorem RQ.of {D:Nat->Prop} {q:Nat} {a b:World} (h:J2 a b):RQ D q a b:=⟨λ_=>h,λ_=>h.x⟩
theorem RQ.trans {D:Nat->Prop} {q:Nat} {a b c:World} (h:RQ D q a b) (k:RQ D q b c):RQ D q a c:=⟨λe=>(h.1 e).trans (k.1 e),λe=>(h.2 e).trans (k.2 e)⟩
def qK (k:Nat) (f:Bool):Nat:=cond (Nat.beq k 1) (cond f 2 1) 0
section
variable {F : Fence} {n : Nat} {P : Program} {ops : Array Oper} {md : Region.Mode} {D : Nat -> Prop} {far : Nat -> Bool}
def QF:Exit->Act->World->Prop:=λ_ _ _=>False
theorem Ba1 {o:Oper} {a:Act} {w:World} {N:Act->World->Prop} {Q:Exit->Act->World->Prop} (h:o.wpIn F n P a w N QF):o.wpIn F n P a w N Q:=by
 unfold Oper.wpIn at *
 refine ⟨h.1,?_⟩
 have h:=h.2
 generalize (o.semAt F.round a.eval).run P w=r at *
 cases r with
 | ok x w'=>
  cases x<;>simp only [Oper.uponIn] at h ⊢
  case value=>exact h
  case skip=>exact h
  case defer=>exact h
  case enter=>exact ⟨h.1,CallsIn.mono h.2 λe w'' he=>by
   cases e with
   | returned u=>exact he
   | panicked c=>exact he.elim
   | outgrown=>obtain ⟨_,_,h⟩:=he;exact h.elim⟩
  case row=>exact h
  case round=>exact ⟨h.1,RoundIn.mono h.2 λe w'' he=>by
   cases e with
   | returned u=>exact he
   | panicked c=>exact he.elim
   | outgrown=>obtain ⟨_,_,h⟩:=he;exact h.elim⟩
 | halt x w'=>
  cases x<;>simp only [Oper.uponIn] at h ⊢
  case panic=>exact h.elim
theorem Ag8 {i:Nat} {a:Act} {w:World} {N:Act->World->Prop} {Q:Exit->Act->World->Prop} (h:wpOpIn F n P ops QF i N a w):wpOpIn F n P ops Q i N a w:=by
 unfold wpOpIn at *
 split
 ·grind
 ·rename_i o ho
  simp only [ho] at h
  split
  ·rename_i hw;simp only [hw,if_true] at h;exact Ba1 h
  grind
def YQ (F:Fence) (n:Nat) (P:Program) (ops:Array Oper) (D:Nat->Prop) (q:Nat) (w0:World) (o:Oper) (v:Value) (a:Act):Prop:=
 o.askedIn F P a (λw=>RQ D q w0 w)/\
 ((Region.wanted o (yielded ops a.tmps)=true/\∀ w,RQ D q w0 w->o.quietAtIn F n P a (J2 w) w v)\/
  (Region.wanted o (yielded ops a.tmps)=false/\v=undef))
theorem YQ.step {q:Nat} {w0 w1:World} {o:Oper} {v:Value} {a:Act} (h:YQ F n P ops D q w0 o v a) (hl:RQ D q w0 w1):YQ F n P ops D q w1 o v a:=
 ⟨λw hw=>h.1 w (hl.trans hw),h.2.imp (λh=>⟨h.1,λw hw=>h.2 w (hl.trans hw)⟩) (λh=>h)⟩
theorem YQ.of_same {q:Nat} {w0:World} {o:Oper} {v:Value} {a a':Act} (hy:YQ F n P ops D q w0 o v a) (he:execOp a'.eval o=execOp a.eval o)
  (hw:Region.wanted o (yielded ops a'.tmps)=Region.wanted o (yielded ops a.tmps)) (hb:∀ w,o.about P w a'.eval=o.about P w a.eval):YQ F n P ops D q w0 o v a':=by
 unfold YQ Oper.quietAtIn Oper.askedIn at *
 rw [he,hw]
 exact ⟨λw hc f hf=>hy.1 w hc f (by rw [<-hb w];exact hf),hy.2⟩
theorem YQ.wpOpIn {q:Nat} {w0 w:World} {i:Nat} {o:Oper} {v:Value} {a:Act} (hi:ops[i]? = some o) (hnd:∀ c,o.op≠.defer c) (hy:YQ F n P ops D q w0 o v a) (hw:RQ D q w0 w) {K:Act->World->Prop} (h:∀ w',J2 w w'->K (a.put o.dst v) w'):wpOpIn F n P ops QF i K a w:=by
 unfold Go.wpOpIn
 simp only [hi]
 rcases hy.2 with ⟨hwt,hv⟩ | ⟨hwt,rfl⟩
 ·simp only [hwt,if_true]
  have h3:=hv w hw
  unfold Oper.quietAtIn at h3
  unfold Oper.wpIn
  refine ⟨hy.1 w hw,?_⟩
  rw [Oper.semAt_eq _ _ _ hnd]
  generalize (execOp a.eval o).run P w=r at *
  cases r with
  | ok x w'=>
   cases x<;>simp only [Oper.quietUponIn] at h3<;>simp only [Oper.uponIn]
   case value u=>
    obtain ⟨e1,e2⟩:=h3
    rw [e1,e2]
    exact h _ (J2.refl w)
   case skip=>
    obtain ⟨e1,e2⟩:=h3
    rw [e1,<-e2]
    exact h _ (J2.refl w)
   case enter f args=>
    obtain ⟨e1,hd,hc⟩:=h3
    rw [e1]
    exact ⟨hd,hc.mono λe w'' ⟨he,hw''⟩=>by subst he;exact h _ hw''⟩
  | halt x w'=>simp only [Oper.quietUponIn] at h3
 ·simp only [hwt,Bool.false_eq_true,if_false];exact ⟨hy.1 w hw,h _ (J2.refl w)⟩
theorem NH {q:Nat} {w0:World} {j:Nat} {oi oj:Oper} {v:Value} (hj:ops[j]? = some oj) (hap:oi.apart ops oj=true)
  (hsi:∀ cs b,oi.op≠.select cs b) (hsj:∀ cs b,oj.op≠.select cs b) (hnd:∀ c,oj.op≠.defer c) {K:Act->World->Prop} {a:Act} {w:World}
  (hy:YQ F n P ops D q w0 oi v a) (h:wpOpIn F n P ops QF j K (a.put oi.dst v) w) :
  wpOpIn F n P ops QF j (λa' w'=>YQ F n P ops D q w0 oi v a'/\K (a'.put oi.dst v) w') a w:=by
 obtain ⟨h1,h2,h3⟩:=Oper.apart_spec hap
 have keep:∀ (a:Act),YQ F n P ops D q w0 oi v a->∀ u,YQ F n P ops D q w0 oi v (a.put oj.dst u):=λa hy u=>
  hy.of_same (execOp_put oi hsi a oj.dst u h3) (wanted_put oi a oj.dst u h3) (λw=>about_put oi w a oj.dst u h3)
 unfold wpOpIn at *
 simp only [hj] at *
 rw [wanted_put oj a oi.dst v h1,about_put oj w a oi.dst v h1] at h
 split
 ·rename_i hw
  simp only [hw,if_true] at h
  unfold Oper.wpIn at *
  rw [about_put oj w a oi.dst v h1] at h
  refine ⟨h.1,?_⟩
  have h:=h.2
  rw [Oper.semAt_eq _ _ _ hnd,execOp_put oj hsj a oi.dst v h1] at h
  rw [Oper.semAt_eq _ _ _ hnd]
  have hexec:∀ d w',(execOp a.eval oj).run P w≠.ok (.defer d) w'\/True:=λ_ _=>.inr trivial
  generalize hr:(execOp a.eval oj).run P w=r at *
  cases r with
  | ok x w'=>
   cases x<;>simp only [Oper.uponIn] at h ⊢
   case value u=>exact ⟨keep a hy u,by rw [<-Act.put_comm a v u h2];exact h⟩
   case skip=>exact ⟨keep a hy _,by rw [<-Act.put_comm a v undef h2];exact h⟩
   case defer d=>
    have keepD:∀ d,YQ F n P ops D q w0 oi v { a with defers:=d::a.defers }:=λd=>hy.of_same rfl rfl (λ_=>rfl)
    refine ⟨keep _ (keepD d) _,?_⟩
    rw [<-Act.put_comm _ v undef h2,<-Act.put_defers]
    exact h
   case enter f args=>
    refine ⟨h.1,CallsIn.mono h.2 λe w'' he=>?_⟩
    cases e with
    | returned u=>exact ⟨keep a hy u,by rw [<-Act.put_comm a v u h2];exact he⟩
    | panicked c=>exact he
    | outgrown=>exact he
   case row row args=>exact ⟨h.1,RowsIn.mono h.2 λu w'' he=>⟨keep a hy u,by rw [<-Act.put_comm a v u h2];exact he⟩⟩
   case round l f tmps assign body=>
    refine ⟨h.1,RoundIn.mono h.2 λe w'' he=>?_⟩
    cases e with
    | returned u=>exact ⟨keep a hy u,by rw [<-Act.put_comm a v u h2];exact he⟩
    | panicked c=>exact he
    | outgrown=>exact he
  | halt x w'=>
   cases x<;>simp only [Oper.uponIn] at h ⊢
   case panic u=>exact h
 ·rename_i hw
  simp only [hw] at h
  exact ⟨h.1,keep a hy _,by rw [<-Act.put_comm a v undef h2];exact h.2⟩
def wpR (F:Fence) (n:Nat) (P:Program) (md:Region.Mode) (ops:Array Oper) (D:Nat->Prop) (wr fs:Nat->Bool) (Qn:Act->World->Prop):Nat->Array Bool->Act->World->Prop
 | 0,listed,a,w=>Region.ready md ops listed=[]/\Qn a w
 | f+1,listed,a,w=>(Region.ready md ops listed=[]->Qn a w)/\
  ∀ i∈Region.ready md ops listed,wpOpIn F n P ops QF i (λa' w'=>(wr i=false->J2 w w')/\(fs i=true->Ig D w w')/\∀ w1,J2 w' w1->wpR F n P md ops D wr fs Qn f (listed.setIfInBounds i true) a' w1) a w
theorem Ia {wr fs:Nat->Bool} {Q:Exit->Act->World->Prop} {Qn:Act->World->Prop} (hQ:∀ a w,Qn a w->Q .normal a w):∀ (f:Nat) (listed:Array Bool) (a:Act) (w:World),wpR F n P md ops D wr fs Qn f listed a w->wpAnyIn F n P md ops Q f listed a w
 | 0,_,_,_,h=>⟨h.1,hQ _ _ h.2⟩
 | f+1,_,_,_,h=>⟨λh0=>hQ _ _ (h.1 h0),λi hi=>Ag8 (wpOpIn_mono (λa' w' h=>Ia hQ f _ a' w' (h.2.2 w' (J2.refl w'))) (h.2 i hi))⟩
def DC (md:Region.Mode) (ops:Array Oper) (listed:Array Bool):Prop:=∀ j o,ops[j]? = some o->listed.getD j false=true->∀ e∈o.after,Region.binds md e=true->listed.getD e.on false=true
theorem JU {listed:Array Bool} {i j:Nat} (h:(listed.setIfInBounds i true).getD j false=true):j=i\/listed.getD j false=true:=by
 by_cases hij:i=j
 all_goals simp_all
theorem DC.set {listed:Array Bool} {i:Nat} (h:DC md ops listed) (hi:i∈Region.ready md ops listed):DC md ops (listed.setIfInBounds i true):=by
 intro j o ho hj e he hb
 refine getD_set_true ?_
 rcases JU hj with rfl | hj
 ·obtain ⟨_,o',ho',hall⟩:=mem_ready.1 hi
  grind
 ·exact h j o ho hj e he hb
def Zf (md:Region.Mode) (ops:Array Oper):Nat->Nat->Nat->Bool
 | 0,_,_=>false
 | f+1,j,i=>match ops[j]? with
  | some o=>(o.after.toList.any λe=>Region.binds md e&&Nat.beq e.on i) || (o.after.toList.any λe=>Region.binds md e&&Zf md ops f e.on i)
  | none=>false
theorem Ua {listed:Array Bool} {i:Nat} (hd:DC md ops listed) (hi:listed.getD i false=false):∀ f j,Zf md ops f j i=true->listed.getD j false=false/\j∉Region.ready md ops listed
 | 0,j,h=>by cases h
 | f+1,j,h=>by
  simp only [Zf] at h
  split at h
  ·rename_i o ho
   have key:∃ e∈o.after,Region.binds md e=true/\listed.getD e.on false=false:=by
    rw [Bool.or_eq_true,List.any_eq_true,List.any_eq_true] at h
    rcases h with ⟨e,he,hb⟩ | ⟨e,he,hb⟩
    ·rw [Bool.and_eq_true] at hb
     have:=Nat.eq_of_beq_eq_true hb.2
     grind
    ·rw [Bool.and_eq_true] at hb
     exact ⟨e,by simpa using he,hb.1,(Ua hd hi f e.on hb.2).1⟩
   obtain ⟨e,he,hb,hl⟩:=key
   refine ⟨?_,λhr=>?_⟩
   ·cases hj:listed.getD j false with
    | false=>rfl
    | true=>rw [hd j o ho hj e he hb] at hl;cases hl
   ·obtain ⟨_,o',ho',hall⟩:=mem_ready.1 hr
    grind
  ·cases h
theorem Qa {listed:Array Bool} {i:Nat} (h:i∈Region.ready md ops listed):listed.getD i false=false:=by
 have h0:=(mem_ready.1 h).1
 grind
theorem Ag9 {wr fs:Nat->Bool} {Qn:Act->World->Prop} {q:Nat} {i:Nat} {oi:Oper} {v:Value} (hi:ops[i]? = some oi) (hsel:∀ (j:Nat) (o:Oper) cs b,ops[j]? = some o->o.op≠.select cs b) (hnd:∀ (j:Nat) (o:Oper) c,ops[j]? = some o->o.op≠.defer c) :
  ∀ (fuel:Nat) (listed:Array Bool) (a:Act) (w0:World),
   (∀ j oj,ops[j]? = some oj->j≠i->listed.getD j true=false->(∀ e∈oj.after,Region.binds md e=true->e.on≠i)->oi.apart ops oj=true)->
   (∀ j,j≠i->listed.getD j true=false->wr j=true->(q=1\/(q=2/\fs j=false))->Zf md ops ops.size j i=true)->DC md ops listed->
   i∈Region.ready md ops listed->YQ F n P ops D q w0 oi v a->
   (∀ w,J2 w0 w->wpR F n P md ops D wr fs Qn fuel (listed.setIfInBounds i true) (a.put oi.dst v) w)->∀ w,J2 w0 w->wpR F n P md ops D wr fs Qn (fuel+1) listed a w:=by
 intro fuel
 induction fuel with
 | zero=>
  intro listed a w0 _ _ _ hr hy H w hw
  refine ⟨λh=>(by rw [h] at hr;cases hr),λj hj=>?_⟩
  by_cases hji:j=i
  ·subst hji
   exact hy.wpOpIn hi (λc=>hnd j oi c hi) (.of hw) λw' hl=>⟨λ_=>hl,λ_=>hl.x,λw1 h1=>H w1 (hw.trans (hl.trans h1))⟩
  ·have:=ready_mono hj hji
   rw [(H w hw).1] at this
   cases this
 | succ fuel ih=>
  intro listed a w0 hfree hwr hd hr hy H w hw
  refine ⟨λh=>(by rw [h] at hr;cases hr),λj hj=>?_⟩
  by_cases hji:j=i
  ·subst hji
   exact hy.wpOpIn hi (λc=>hnd j oi c hi) (.of hw) λw' hl=>⟨λ_=>hl,λ_=>hl.x,λw1 h1=>H w1 (hw.trans (hl.trans h1))⟩
  ·have h1:=(H w hw).2 j (ready_mono hj hji)
   obtain ⟨hjun,oj,hoj,hall⟩:=mem_ready.1 hj
   have hiun:=Qa hr
   have hnot:∀ e∈oj.after,Region.binds md e=true->e.on≠i:=λe he hb heq=>by grind
   have h2:=NH hoj (hfree j oj hoj hji hjun hnot) (λcs b=>hsel i oi cs b hi) (λcs b=>hsel j oj cs b hoj) (λc=>hnd j oj c hoj) (hy.step (w1:=w) (.of hw)) h1
   have hstep:∀ {k:Nat},k≠i->(listed.setIfInBounds j true).getD k true=false->listed.getD k true=false:=fun {k} hki hun=>by
    by_cases hjk:j=k
    all_goals simp_all
   refine wpOpIn_mono (λa' w' h3=>?_) h2
   obtain ⟨hy',hl,hlx,hR⟩:=h3
   refine ⟨hl,hlx,λw1 hw1=>?_⟩
   have hql:RQ D q w w':=by
    cases hwj:wr j with
    | false=>exact .of (hl hwj)
    | true=>
     have hno:(q=1\/(q=2/\fs j=false))->False:=λhq=>(Ua hd hiun ops.size j (hwr j hji hjun hwj hq)).2 hj
     refine ⟨λhq=>(hno (.inl hq)).elim,λhq=>?_⟩
     cases hf:fs j with
     | true=>exact hlx hf
     | false=>exact (hno (.inr ⟨hq,hf⟩)).elim
   refine ih (listed.setIfInBounds j true) a' w' (λk ok hk hki hun hno=>hfree k ok hk hki (hstep hki hun) hno) (λk hki hun hwk=>hwr k hki (hstep hki hun) hwk) (hd.set hj) (ready_mono hr (Ne.symm hji)) (hy'.step hql) (λw2 hw2=>?_) w1 hw1
   rw [Array.setIfInBounds_comm _ _ hji]
   exact hR w2 hw2
def J4 (F:Fence) (n:Nat) (P:Program) (ops:Array Oper) (D:Nat->Prop) (far:Nat->Bool) (kind:Nat->Nat) (E:Act->World->Prop):List Nat->Act->World->Prop
 | [],a,w0=>E a w0
 | i::rest,a,w0=>(kind i<=1->∃ o v,ops[i]? = some o/\YQ F n P ops D (qK (kind i) (far i)) w0 o v a/\J4 F n P ops D far kind E rest (a.put o.dst v) w0)/\
  (2<=kind i->∀ w,J2 w0 w->wpOpIn F n P ops QF i (λa' w'=>(kind i=2->J2 w w')/\(far i=true->Ig D w w')/\J4 F n P ops D far kind E rest a' w') a w)
def WU (md:Region.Mode) (ops:Array Oper) (far:Nat->Bool) (kind:Nat->Nat) (i:Nat) (listed:Array Bool):Bool:=
 (Region.ready md ops listed).contains i&&(Region.free md ops listed i&&(Nat.beq (kind i) 0 || (List.range ops.size).all λj=>Nat.beq j i || (listed.getD j true || (!(Nat.ble 3 (kind j)) || ((far i&&far j) || Zf md ops ops.size j i)))))
def Wp (md:Region.Mode) (ops:Array Oper) (far:Nat->Bool) (kind:Nat->Nat) (fin:Array Bool->Bool):List Nat->Array Bool->Bool
 | [],listed=>fin listed
 | i::r,listed=>cond (Nat.ble (kind i) 1) (WU md ops far kind i listed) ((Region.ready md ops listed)==[i])&&Wp md ops far kind fin r (listed.setIfInBounds i true)
def FP (md:Region.Mode) (ops:Array Oper) (far:Nat->Bool) (kind:Nat->Nat):List Nat->Array Bool->Bool:=Wp md ops far kind λlisted=>(Region.ready md ops listed).isEmpty
theorem Ao1 {kind:Nat->Nat} {Qn:Act->World->Prop} (hs:Region.noSelect ops=true) (hnd:∀ (j:Nat) (o:Oper) c,ops[j]? = some o->o.op≠.defer c) (hk:∀ j,ops.size<=j->kind j<=1) {i fuel:Nat} {listed:Array Bool} {a:Act} {w0:World} {o:Oper} {v:Value}
  (hB:WU md ops far kind i listed=true) (hd:DC md ops listed) (hi:ops[i]? = some o) (hy:YQ F n P ops D (qK (kind i) (far i)) w0 o v a)
  (h:DC md ops (listed.setIfInBounds i true)->∀ w,J2 w0 w->wpR F n P md ops D (λj=>Nat.ble 3 (kind j)) far Qn fuel (listed.setIfInBounds i true) (a.put o.dst v) w):∀ w,J2 w0 w->wpR F n P md ops D (λj=>Nat.ble 3 (kind j)) far Qn (fuel+1) listed a w:=by
 intro w hw
 simp only [WU,Bool.and_eq_true] at hB
 obtain ⟨hr,hf,hwt⟩:=hB
 have hr':i∈Region.ready md ops listed:=by simpa using hr
 refine Ag9 (q:=qK (kind i) (far i)) hi (Region.noSelect_spec hs) hnd fuel listed a w0 (Region.free_spec hi hf) (λj hji hun hwj hq=>?_) hd hr' hy (h (hd.set hr')) w hw
 have hq1:kind i=1:=by
  cases hb:Nat.beq (kind i) 1 with
  | true=>exact Nat.eq_of_beq_eq_true hb
  | false=>simp [qK,hb] at hq
 have hff:(far i&&far j)=false:=by
  rw [hq1] at hq
  cases hfi:far i with
  | false=>rfl
  | true=>
   rcases hq with hq | ⟨_,hq⟩
   ·rw [hfi] at hq;cases hq
   ·rw [hq];rfl
 rw [hq1] at hwt
 simp only [show Nat.beq 1 0=false from rfl,Bool.false_or,List.all_eq_true,List.mem_range] at hwt
 have hjs:j<ops.size:=Decidable.byContradiction λhge=>by
  have:=hk j (by omega)
  have h3:=Qx hwj
  omega
 have:=hwt j hjs
 rw [show Nat.beq j i=false by cases hb:Nat.beq j i with | false=>rfl | true=>exact absurd (Nat.eq_of_beq_eq_true hb) hji,hun,hwj,hff] at this
 simpa using this
theorem Kl {kind:Nat->Nat} {Qn E:Act->World->Prop} {fin:Array Bool->Bool} {m:Nat} (hs:Region.noSelect ops=true) (hnd:∀ (j:Nat) (o:Oper) c,ops[j]? = some o->o.op≠.defer c) (hk:∀ j,ops.size<=j->kind j<=1)
  (hfin:∀ listed a w0,fin listed=true->DC md ops listed->E a w0->∀ w,J2 w0 w->wpR F n P md ops D (λj=>Nat.ble 3 (kind j)) far Qn m listed a w) :
  ∀ (rest:List Nat) (listed:Array Bool) (a:Act) (w0:World),Wp md ops far kind fin rest listed=true->DC md ops listed->J4 F n P ops D far kind E rest a w0->∀ w,J2 w0 w->wpR F n P md ops D (λj=>Nat.ble 3 (kind j)) far Qn (m+rest.length) listed a w
 | [],listed,a,w0,hB,hd,h,w,hw=>hfin listed a w0 hB hd h w hw
 | i::rest,listed,a,w0,hB,hd,h,w,hw=>by
  simp only [Wp,Bool.and_eq_true] at hB
  obtain ⟨hB1,hB2⟩:=hB
  simp only [J4] at h
  show wpR F n P md ops D _ _ Qn (m+rest.length+1) listed a w
  by_cases hki:kind i<=1
  ·rw [show Nat.ble (kind i) 1=true from FC hki,cond_true] at hB1
   obtain ⟨o,v,hi,hy,hC⟩:=h.1 hki
   exact Ao1 hs hnd hk hB1 hd hi hy (λhd' w1 hw1=>Kl hs hnd hk hfin rest _ _ w0 hB2 hd' hC w1 hw1) w hw
  ·rw [show Nat.ble (kind i) 1=false by cases hb:Nat.ble (kind i) 1 with | false=>rfl | true=>exact absurd (Qx hb) hki,cond_false] at hB1
   have hr:Region.ready md ops listed=[i]:=by simpa using hB1
   refine ⟨λh0=>(by rw [hr] at h0;cases h0),λj hj=>?_⟩
   have hji:j=i:=by rw [hr] at hj;simpa using hj
   subst hji
   refine wpOpIn_mono (λa' w' h3=>?_) (h.2 (by omega) w hw)
   refine ⟨λhwj=>h3.1 ?_,h3.2.1,λw1 hw1=>Kl hs hnd hk hfin rest _ a' w' hB2 (hd.set hj) h3.2.2 w1 hw1⟩
   have:¬ 3<=kind j:=λh=>by dsimp only at hwj;rw [FC h] at hwj;cases hwj
   omega
def Qe (F:Fence) (n:Nat) (P:Program) (ops:Array Oper) (D:Nat->Prop) (far:Nat->Bool) (kind:Nat->Nat) (E:Act->World->Prop) (i4:Nat) (post:List Nat):List Nat->Act->World->Prop
 | [],a,w0=>∀ w,J2 w0 w->wpOpIn F n P ops QF i4 (λa' w'=>J2 w w'/\J4 F n P ops D far kind E post a' w') a w
 | i::rest,a,w0=>J4 F n P ops D far kind (Qe F n P ops D far kind E i4 post rest) [i] a w0/\
  (2<=kind i->∀ w,J2 w0 w->wpOpIn F n P ops QF i4 (λa' w'=>J2 w w'/\J4 F n P ops D far kind E ((i::rest)++post) a' w') a w)
def Kk (md:Region.Mode) (ops:Array Oper) (far:Nat->Bool) (kind:Nat->Nat) (i4:Nat) (post:List Nat):List Nat->Array Bool->Bool
 | [],listed=>(Region.ready md ops listed==[i4])&&FP md ops far kind post (listed.setIfInBounds i4 true)
 | i::r,listed=>cond (Nat.ble (kind i) 1) (WU md ops far kind i listed)
   ((Region.ready md ops listed).contains i&&((Region.ready md ops listed).all (λj=>Nat.beq j i || Nat.beq j i4)&&FP md ops far kind ((i::r)++post) (listed.setIfInBounds i4 true)))&&Kk md ops far kind i4 post r (listed.setIfInBounds i true)
theorem Al7 {kind:Nat->Nat} {Qn:Act->World->Prop} {i4:Nat} {post:List Nat} (hs:Region.noSelect ops=true) (hnd:∀ (j:Nat) (o:Oper) c,ops[j]? = some o->o.op≠.defer c) (hk:∀ j,ops.size<=j->kind j<=1) :
  ∀ (mid:List Nat) (listed:Array Bool) (a:Act) (w0:World),Kk md ops far kind i4 post mid listed=true->DC md ops listed->Qe F n P ops D far kind (λa w0=>∀ w,J2 w0 w->Qn a w) i4 post mid a w0->∀ w,J2 w0 w->wpR F n P md ops D (λj=>Nat.ble 3 (kind j)) far Qn (post.length+1+mid.length) listed a w:=by
 have fin0:∀ (listed:Array Bool) (a:Act) (w0:World),(Region.ready md ops listed).isEmpty=true->DC md ops listed->(∀ w,J2 w0 w->Qn a w)->∀ w,J2 w0 w->wpR F n P md ops D (λj=>Nat.ble 3 (kind j)) far Qn 0 listed a w:=
  λlisted a w0 h _ hq w hw=>⟨by simpa using h,hq w hw⟩
 intro mid
 induction mid with
 | nil=>
  intro listed a w0 hB hd h w hw
  simp only [Kk,Bool.and_eq_true] at hB
  obtain ⟨hB1,hB2⟩:=hB
  have hr:Region.ready md ops listed=[i4]:=by simpa using hB1
  show wpR F n P md ops D _ _ Qn (post.length+1) listed a w
  refine ⟨λh0=>(by rw [hr] at h0;cases h0),λj hj=>?_⟩
  have hji:j=i4:=by rw [hr] at hj;simpa using hj
  subst hji
  refine wpOpIn_mono (λa' w' h3=>⟨λ_=>h3.1,λ_=>h3.1.x,λw1 hw1=>?_⟩) (h w hw)
  have:=Kl hs hnd hk fin0 post _ a' w' hB2 (hd.set hj) h3.2 w1 hw1
  rwa [Nat.zero_add] at this
 | cons i rest ih=>
  intro listed a w0 hB hd h w hw
  simp only [Kk,Bool.and_eq_true] at hB
  obtain ⟨hB1,hB2⟩:=hB
  simp only [Qe] at h
  obtain ⟨hc,he⟩:=h
  simp only [J4] at hc
  show wpR F n P md ops D _ _ Qn (post.length+1+rest.length+1) listed a w
  by_cases hki:kind i<=1
  ·rw [show Nat.ble (kind i) 1=true from FC hki,cond_true] at hB1
   obtain ⟨o,v,hi,hy,hC⟩:=hc.1 hki
   exact Ao1 hs hnd hk hB1 hd hi hy (λhd' w1 hw1=>ih _ _ w0 hB2 hd' hC w1 hw1) w hw
  ·rw [show Nat.ble (kind i) 1=false by cases hb:Nat.ble (kind i) 1 with | false=>rfl | true=>exact absurd (Qx hb) hki,cond_false] at hB1
   simp only [Bool.and_eq_true,List.all_eq_true,Bool.or_eq_true] at hB1
   obtain ⟨hi0,hall,hB3⟩:=hB1
   have hi:i∈Region.ready md ops listed:=by simpa using hi0
   refine ⟨λh0=>(by rw [h0] at hi;cases hi),λj hj=>?_⟩
   rcases hall j hj with hb | hb
   ·have hji:=Nat.eq_of_beq_eq_true hb
    subst hji
    refine wpOpIn_mono (λa' w' h3=>?_) (hc.2 (by omega) w hw)
    refine ⟨λhwj=>h3.1 ?_,h3.2.1,λw1 hw1=>ih _ a' w' hB2 (hd.set hj) h3.2.2 w1 hw1⟩
    have:¬ 3<=kind j:=λh=>by dsimp only at hwj;rw [FC h] at hwj;cases hwj
    omega
   ·have hji:=Nat.eq_of_beq_eq_true hb
    subst hji
    refine wpOpIn_mono (λa' w' h3=>⟨λ_=>h3.1,λ_=>h3.1.x,λw1 hw1=>?_⟩) (he (by omega) w hw)
    have:=Kl hs hnd hk fin0 ((i::rest)++post) _ a' w' hB3 (hd.set hj) h3.2 w1 hw1
    rw [Nat.zero_add] at this
    rw [show post.length+1+rest.length=((i::rest)++post).length by rw [List.length_append,List.length_cons];omega]
    exact this
def AB (d:Option Tmp) (a a':Act):Prop:=∀ t,d≠some t->a'.tmps[t]? = a.tmps[t]?
theorem W5 (a:Act) (d:Option Tmp) (v:Value):AB d a (a.put d v):=λt ht=>by
 cases d with
 | none=>rfl
 | some d=>
  have:d≠t:=λe=>ht (by rw [e])
  simp [Act.put,this]
theorem VG {o:Oper} {a:Act} {w:World} {N:Act->World->Prop} (h:o.wpIn F n P a w N QF):o.wpIn F n P a w (λa' w'=>AB o.dst a a'/\N a' w') QF:=by
 unfold Oper.wpIn at *
 refine ⟨h.1,?_⟩
 have h:=h.2
 generalize (o.semAt F.round a.eval).run P w=r at *
 cases r with
 | ok x w'=>
  cases x<;>simp only [Oper.uponIn] at h ⊢
  case value=>exact ⟨W5 _ _ _,h⟩
  case skip=>exact ⟨W5 _ _ _,h⟩
  case defer=>
   refine ⟨λt ht=>?_,h⟩
   exact W5 { a with defers:=_ } o.dst undef t ht
  case enter=>exact ⟨h.1,CallsIn.mono h.2 λe w'' he=>by
   cases e with
   | returned u=>exact ⟨W5 _ _ _,he⟩
   | panicked c=>exact he.elim
   | outgrown=>obtain ⟨_,_,h⟩:=he;exact h.elim⟩
  case row=>exact ⟨h.1,RowsIn.mono h.2 λu w'' he=>⟨W5 _ _ _,he⟩⟩
  case round=>exact ⟨h.1,RoundIn.mono h.2 λe w'' he=>by
   cases e with
   | returned u=>exact ⟨W5 _ _ _,he⟩
   | panicked c=>exact he.elim
   | outgrown=>obtain ⟨_,_,h⟩:=he;exact h.elim⟩
 | halt x w'=>
  cases x<;>simp only [Oper.uponIn] at h ⊢
  omega
theorem IB {i:Nat} {o:Oper} (ho:ops[i]? = some o) {a:Act} {w:World} {N:Act->World->Prop} (h:wpOpIn F n P ops QF i N a w):wpOpIn F n P ops QF i (λa' w'=>AB o.dst a a'/\N a' w') a w:=by
 unfold wpOpIn at *
 simp only [ho] at h ⊢
 split
 ·rename_i hw;simp only [hw,if_true] at h;exact VG h
 ·rename_i hw
  simp only [hw] at h
  exact ⟨h.1,W5 _ _ _,h.2⟩
theorem Sx {kind:Nat->Nat} {E:Act->World->Prop} {i:Nat} {o:Oper} (ho:ops[i]? = some o) {a:Act} {w0:World} (h:J4 F n P ops D far kind (λa' w'=>AB o.dst a a'->E a' w') [i] a w0):J4 F n P ops D far kind E [i] a w0:=by
 simp only [J4] at h ⊢
 refine ⟨λhk=>?_,λhk w hw=>?_⟩
 ·obtain ⟨o',v,h1,h2,h3⟩:=h.1 hk
  obtain rfl:=Option.some.inj (ho.symm.trans h1)
  exact ⟨_,v,h1,h2,h3 (W5 _ _ _)⟩
 ·exact wpOpIn_mono (λa' w' ⟨h1,h2,h2x,h3⟩=>⟨h2,h2x,h3 h1⟩) (IB ho (h.2 hk w hw))
theorem Qc {id:Nat} {Q:Exit->Act->World->Prop} {kind:Nat->Nat} {ord:List Nat} {a:Act} {w:World} (hm:P.follows .mixedOrders=true) (hs:Region.noSelect ops=true) (hnd:∀ (j:Nat) (o:Oper) c,ops[j]? = some o->o.op≠.defer c) (hk:∀ j,ops.size<=j->kind j<=1)
  (hlen:ord.length=ops.size) (hB:FP .any ops far kind ord (Array.replicate ops.size false)=true) (h:J4 F n P ops D far kind (λa w0=>∀ w,J2 w0 w->Q .normal a w) ord a w):(Code.region id ops true).wpIn F n P Q a w:=by
 refine wpIn_region_any hm ?_
 rw [<-hlen,<-Nat.zero_add ord.length]
 refine Ia (λ_ _ h=>h) _ _ _ _ (Kl (Qn:=λa w=>Q .normal a w) (m:=0) (fin:=λlisted=>(Region.ready .any ops listed).isEmpty) (E:=λa w0=>∀ w,J2 w0 w->Q .normal a w) hs hnd hk (λlisted a w0 h _ hq w hw=>⟨by simpa using h,hq w hw⟩) ord _ a w (by rw [Nat.zero_add,hlen];exact hB) (λj o ho hj=>?_) h _ (J2.refl w))
 simp only [Array.getD_eq_getD_getElem?,Array.getElem?_replicate] at hj
 split at hj<;>cases hj
end
section
variable {σ R : Type} {r : R} {C : Cfg} {I : σ -> (Nat -> Prop) -> (Nat -> Prop) -> World -> Prop} {Γ : Ctx} {Φ : Nat -> Prop} {st : St σ} {a : Act} {w : World} {cl : D5} {yh : Yh σ} {yv : Value} {o : Oper}
theorem UN {P:Program} {m:Sem Next} {w w1 w2:World} {x y:Next} (h:m.run P w = .ok x w1) (k:m.run P w = .ok y w2):x=y/\w1=w2:=by grind
theorem Mb (w:World) (x:Obj):J2 w (w.alloc x):=⟨⟨λg hg=>F7 (w':=w.alloc x) (o:=x) rfl hg,by rw [show (w.alloc x).heap=w.heap.push x from rfl];simp⟩,rfl,rfl,rfl⟩
theorem AH {Γ:Ctx} {e:Nat} {ev:Operand->Value} (hok:(C.ti e).ok=true) (hop:o.op = .alloc e):∃ z:Value,(execOp ev o).run C.P w = .ok (.value (.pointer (some ⟨w.heap.size,0,none⟩))) (w.alloc (.cells z.cells e))/\(∀ (Γ:Ctx) sh w,CR Γ sh w ((C.ti e).ks.map W4) z.cells)/\∃ i,C.P.info? e=some i/\i.zero=some z:=by
 obtain ⟨i,z,hi,hz,_,_⟩:=Ie (Γ:=Γ) (sh:=λ_=>none) (w:=w) hok
 refine ⟨z,?_,λΓ' sh w'=>?_,i,hi,hz⟩
 ·simp only [execOp,hop]
  simp [Instr.alloc,zeroValue,typeInfo,hi,hz,newVar,newRow]
 ·obtain ⟨i',z',hi',hz',_,h⟩:=Ie (Γ:=Γ') (sh:=sh) (w:=w') hok
  grind
theorem Bh9 {ro:Option Nat} {n:Nat} {k:St σ->Option R} {next:Act->World->Prop} {Q:Exit->Act->World->Prop} (A:Ask C I cl yh yv) (hyv:Γ.yv=yv) (he:JO C o.op=true) (h:opK C cl yh o st k=some r) (S:SI C I Γ Φ st a.tmps w) (hN:Nxt C I Γ Φ st.hp w a.defers k r (λa' w'=>J2 w w'->next a' w')) :
  o.wpIn (E5 ro) n C.P a w next Q:=by
 refine ⟨λ_ _=>trivial,?_⟩
 have hnd:∀ c,o.op≠.defer c:=λc e=>by simp [opK,e] at h
 rw [Oper.semAt_eq _ _ _ hnd]
 unfold JO at he
 have add:Rg o.op=false->(∃ V' x,(execOp a.eval o).run C.P w = .ok (.value V') (w.alloc x))->o.uponIn (E5 ro) n C.P a next Q ((execOp a.eval o).run C.P w):=λhcall ⟨V',x,hl⟩=>by
  obtain ⟨V,w',Γ',st',h1,h2,h3,h4⟩:=KU A.hI hcall h S
  have hn:=hN st' (a.put o.dst V) w' Γ' Φ h1 h4 h3 (put_defers _ _ _)
  rcases h2 with h2 | ⟨rfl,h2⟩
  ·obtain ⟨_,rfl⟩:=UN h2 hl
   rw [h2];exact hn (Mb w x)
  grind
 split at he
 ·rename_i t len parts hop
  refine add (by rw [hop];rfl) ?_
  simp only [opK,hop] at h
  obtain ⟨p1,p2⟩:=S.parts parts.toList
  obtain ⟨v,H',hk,hv,V',x,hrun⟩:=Eb (ps:=parts.map λ(i,x)=>(i,a.eval x)) (sl:=st.sl) (tmps:=a.tmps) S.hr h (by rw [Array.toList_map];exact p1)
  refine ⟨V',x,?_⟩
  simp only [execOp,hop]
  simp [hrun]
 ·rename_i e hop
  refine add (by rw [hop];rfl) ?_
  by_cases hok:(C.ti e).ok=true
  ·obtain ⟨z,hr,_⟩:=AH (Γ:=Γ) (ev:=a.eval) (w:=w) hok hop
   exact ⟨_,_,hr⟩
  ·simp [opK,hop,Ub,hok] at h
 ·rename_i c hop
  split at he
  ·rename_i g hcal
   simp only [Bool.and_eq_true,Option.isSome_iff_exists] at he
   obtain ⟨⟨pf,hpfx⟩,hent⟩:=he
   simp only [opK,hop,hcal,opnd,Sw,Nq,hpfx,List.map_nil,List.nil_append,List.append_nil] at h
   split at h
   ·rename_i hna
    obtain ⟨ret,Hc,hpf,h⟩:=W0 h
    have hpf:G1 (pf (I9 st.hp (c.args.toList.map (opnd C st.sl))))=some (ret,Hc):=by
     cases hx:C.xp g with
     | true=>rw [hx] at hpf;exact (X5 hpf).1
     | false=>rw [hx] at hpf;exact hpf
    obtain ⟨h1,h2⟩:=B5 h
    obtain ⟨hc,hn⟩:=S.list c.args
    have key:=Wo (k:=λv st'=>k { st' with sl:=V8 o.dst v st'.sl }) A.hI A.hX S hc hpfx hpf (List.isEmpty_iff.1 hna) (by simpa only [Bool.or_eq_true,Bool.not_eq_true',Bool.and_eq_true] using h1) h2
    have hev:execOp a.eval o=(do let d <-Deferred.ofValue (a.eval (.func g)) (c.args.map a.eval);invoke d.target d.args):=by simp only [execOp,hop,resolve,hcal]
    have hrun:(execOp a.eval o).run C.P w=(callFunc g (c.args.map a.eval)).run C.P w:=by
     rw [hev]
     have e:a.eval (.func g) = .func (.func g) #[] #[]:=rfl
     rw [e]
     simp [Deferred.ofValue,invoke]
    rw [hrun]
    refine key ro n o a next Q ?_
    rintro V w' ⟨⟨v,st',Γ',Φ',k1,k2,k3,k4,k5⟩,hl⟩
    exact hN _ (a.put o.dst V) w' Γ' Φ' k1 k2 ⟨k3.hr,k3.sr.put (ds:=a.defers) o k4 k5,k3.g,k3.inv,k3.dis⟩ (put_defers _ _ _) hl
   ·cases h
  ·cases he
 ·cases he
theorem Xm (C:Cfg) (op:Op):(V6 C op=0/\((∃ x,op = .move x\/op = .assign x\/∃ i,op = .extract x i)\/(∃ t x lo hi mx,op = .slice t x lo hi mx)\/(∃ t x f,op = .fieldAddr t x f)\/(∃ t x i,op = .indexAddr t x i)\/(∃ t p,op = .build t p)\/∃ b t x y q,op = .binOp b t x y q))\/(V6 C op=1/\Pb C op=true)\/(V6 C op=2/\JO C op=true)\/V6 C op=3:=by
 unfold V6
 grind
theorem Bf7 {k:St σ->Option R} (hb:(∃ x,o.op = .move x\/o.op = .assign x\/∃ i,o.op = .extract x i)\/(∃ t x lo hi mx,o.op = .slice t x lo hi mx)\/(∃ t x f,o.op = .fieldAddr t x f)\/(∃ t x i,o.op = .indexAddr t x i)\/(∃ t p,o.op = .build t p)\/∃ b t x y q,o.op = .binOp b t x y q) (h:opK C cl yh o st k=some r) (S:SI C I Γ Φ st a.tmps w) :
  ∃ V st',k st'=some r/\(∀ w':World,(execOp a.eval o).run C.P w' = .ok (.value V) w')/\SI C I Γ Φ st' (a.put o.dst V).tmps w/\Stp C Γ st.hp w noΦ Γ st'.hp w noΦ:=by
 rcases hb with ⟨x,hx⟩ | ⟨t,x,lo,hi,mx,hx⟩ | ⟨t,x,f,hx⟩ | ⟨t,x,i,hx⟩ | ⟨t,p,hx⟩ | ⟨b,t,x,y,q,hx⟩
 ·obtain ⟨V,st',h1,h2,h3,h4⟩:=Kx (a:=a) (show J9 C o.op=true by rcases hx with h | h | ⟨_,h⟩<;>rw [h]<;>rfl) h S
  refine ⟨V,st',h1,λw'=>?_,h3,h4⟩
  have e:=h2 w (Ext.refl w)
  rcases hx with hx | hx | ⟨i,hx⟩<;>simp only [execOp,hx] at e ⊢
  ·cases e;rfl
  ·cases e;rfl
  ·unfold Instr.extract at e ⊢
   split at e
   ·split at e
    ·cases e;simp_all
    ·cases e
   ·cases e
 ·exact MO (a:=a) hx h S
 ·exact JQ (a:=a) hx h S
 ·exact KF (a:=a) hx h S
 ·exact JA (a:=a) hx h S
 ·exact YR (a:=a) hx h S
def Ah6 (C:Cfg) (I:σ->(Nat->Prop)->(Nat->Prop)->World->Prop) (Γ:Ctx) (Φ:Nat->Prop) (H:List Blk) (w:World) (ds:List Deferred) (k:St σ->Option R) (r:R) (q:Prop) (next:Act->World->Prop):Prop:=
 ∀ st' a' w' Γ' Φ',k st'=some r->Stp C Γ H w Φ Γ' st'.hp w' Φ'->SI C I Γ' Φ' st' a'.tmps w'->a'.defers=ds->(q->∀ g,Γ'.St g->Γ.St g)->next a' w'
theorem Nxt.q {H:List Blk} {ds:List Deferred} {k:St σ->Option R} {q:Prop} {next:Act->World->Prop} (h:Nxt C I Γ Φ H w ds k r next):Ah6 C I Γ Φ H w ds k r q next:=λst' a' w' Γ' Φ' h1 h2 h3 h4 _=>h st' a' w' Γ' Φ' h1 h2 h3 h4
theorem Ak {ro:Option Nat} {n:Nat} {all:Array Oper} {E:Act->World->Prop} {D:Nat->Prop} {far:Nat->Bool} (A:Ask C I cl yh yv):∀ (rest:List Nat) {Γ:Ctx} {Φ:Nat->Prop} {st:St σ} {a:Act} {w:World} {k:St σ->Option R},(∀ i∈rest,i<all.size/\far i=false)->Γ.yv=yv->
  Bk C cl yh all (rest.filterMap (all[·]?)) st k=some r->SI C I Γ Φ st a.tmps w->Ah6 C I Γ Φ st.hp w a.defers k r (∀ j∈rest,G0 C all j<=1) E->J4 (E5 ro) n C.P all D far (G0 C all) E rest a w
 | [],Γ,Φ,st,a,w,k,hlt,hyv,h,S,hN=>hN st a w Γ Φ h (Stp.refl S.hr) S rfl (λ_ _ h=>h)
 | i::rest,Γ,Φ,st,a,w,k,hlt,hyv,h,S,hN=>by
  have hil:=(hlt i (by simp)).1
  have hfi:=(hlt i (by simp)).2
  obtain ⟨o,ho⟩:∃ o,all[i]? = some o:=⟨all[i],Array.getElem?_eq_getElem hil⟩
  have hlt':∀ j∈rest,j<all.size/\far j=false:=λj hj=>hlt j (by simp [hj])
  rw [List.filterMap_cons,ho] at h
  have hkd:G0 C all i=V6 C o.op:=by simp only [G0,ho]
  have run:∀ {st:St σ},Region.wanted o (yielded all a.tmps)=true->SI C I Γ Φ st a.tmps w->Ah6 C I Γ Φ st.hp w a.defers k r (∀ j∈i::rest,G0 C all j<=1) E->opK C cl yh o st (λst'=>Bk C cl yh all (rest.filterMap (all[·]?)) st' k)=some r->J4 (E5 ro) n C.P all D far (G0 C all) E (i::rest) a w:=fun {st} hwt S hN h=>by
   have quiet:V6 C o.op<=1->∃ V st',Bk C cl yh all (rest.filterMap (all[·]?)) st' k=some r/\YQ (E5 ro) n C.P all D (qK (V6 C o.op) (far i)) w o V a/\SI C I Γ Φ st' (a.put o.dst V).tmps w/\Stp C Γ st.hp w Φ Γ st'.hp w Φ:=λhk1=>by
    rcases Xm C o.op with ⟨hk,hb⟩ | ⟨hk,hq⟩ | ⟨hk,_⟩ | hk
    ·obtain ⟨V,st',h1,h2,h3,h4⟩:=Bf7 (a:=a) hb h S
     refine ⟨V,st',h1,⟨λ_ _ _ _=>trivial,.inl ⟨hwt,λw' _=>?_⟩⟩,h3,h4.lift Φ⟩
     unfold Oper.quietAtIn
     rw [h2 w']
     exact ⟨rfl,rfl⟩
    ·rw [hk]
     simp only [Pb,Bool.or_eq_true] at hq
     rcases hq with hq | hq
     ·obtain ⟨V,st',h1,h2,h3,h4⟩:=Kx (a:=a) hq h S
      refine ⟨V,st',h1,⟨λ_ _ _ _=>trivial,.inl ⟨hwt,λw' hw'=>?_⟩⟩,h3,h4.lift Φ⟩
      unfold Oper.quietAtIn
      rw [h2 w' (hw'.1 (by rw [hfi];rfl)).1.1]
      exact ⟨rfl,rfl⟩
     ·obtain ⟨V,st',h1,h2,h3,h4⟩:=Ab9 (ro:=ro) (n:=n) (a:=a) A.hI A.hX hq h S
      exact ⟨V,st',h1,⟨λ_ _ _ _=>trivial,.inl ⟨hwt,λw' hw'=>h2 w' (hw'.1 (by rw [hfi];rfl))⟩⟩,h3,h4.lift Φ⟩
    all_goals omega
   simp only [J4]
   rw [hkd]
   refine ⟨λhk1=>?_,λhk2 w1 hw1=>?_⟩
   ·obtain ⟨V,st',h1,h2,h3,h4⟩:=quiet hk1
    exact ⟨o,V,ho,h2,Ak A rest hlt' hyv h1 h3 λst2 a2 w2 Γ2 Φ2 k1 k2 k3 k4 k5=>hN st2 a2 w2 Γ2 Φ2 k1 (h4.trans k2) k3 (k4.trans (put_defers _ _ _)) λhq=>k5 λj hj=>hq j (by simp [hj])⟩
   ·obtain ⟨S1,hs1⟩:=S.like A.hI hw1
    unfold wpOpIn
    simp only [ho,hwt,if_true]
    rcases Xm C o.op with ⟨hk,_⟩ | ⟨hk,_⟩ | ⟨hk,hx⟩ | hk
    ·omega
    ·omega
    ·exact Bh9 A hyv hx h S1 λst' a' w' Γ' Φ' h1 h2 h3 h4 hl=>⟨λ_=>hl,λe=>(by rw [hfi] at e;cases e),Ak A rest hlt' (h2.yv.trans hyv) h1 h3 λst2 a2 w2 Γ2 Φ2 k1 k2 k3 k4 _=>hN st2 a2 w2 Γ2 Φ2 k1 (hs1.trans (h2.trans k2)) k3 (k4.trans h4) λhq=>absurd (hq i (by simp)) (by rw [hkd];omega)⟩
    ·exact GP A hyv h S1 λst' a' w' Γ' Φ' h1 h2 h3 h4=>⟨λe=>by omega,λe=>(by rw [hfi] at e;cases e),Ak A rest hlt' (h2.yv.trans hyv) h1 h3 λst2 a2 w2 Γ2 Φ2 k1 k2 k3 k4 _=>hN st2 a2 w2 Γ2 Φ2 k1 (hs1.trans (h2.trans k2)) k3 (k4.trans h4) λhq=>absurd (hq i (by simp)) (by rw [hkd];omega)⟩
  have skip:∀ {st:St σ},Region.wanted o (yielded all a.tmps)=false->SI C I Γ Φ st a.tmps w->Ah6 C I Γ Φ st.hp w a.defers k r (∀ j∈i::rest,G0 C all j<=1) E->Bk C cl yh all (rest.filterMap (all[·]?)) { st with sl:=V8 o.dst (.tup []) st.sl } k=some r->J4 (E5 ro) n C.P all D far (G0 C all) E (i::rest) a w:=fun {st} hwt S hN h=>by
   simp only [J4]
   have go:∀ {w1:World},J2 w w1->J4 (E5 ro) n C.P all D far (G0 C all) E rest (a.put o.dst undef) w1:=fun {w1} hw1=>by
    obtain ⟨S1,hs1⟩:=S.like A.hI hw1
    exact Ak A rest (st:={ st with sl:=V8 o.dst (.tup []) st.sl }) hlt' hyv h (S1.put (o:=o) Z5 (by simp [PV.nms,B8])) λst2 a2 w2 Γ2 Φ2 k1 k2 k3 k4 k5=>hN st2 a2 w2 Γ2 Φ2 k1 (hs1.trans k2) k3 (k4.trans (put_defers _ _ _)) λhq=>k5 λj hj=>hq j (by simp [hj])
   refine ⟨λhk1=>⟨o,undef,ho,⟨λ_ _ _ _=>trivial,.inr ⟨hwt,rfl⟩⟩,go (J2.refl w)⟩,λhk2 w1 hw1=>?_⟩
   unfold wpOpIn
   simp only [ho,hwt,Bool.false_eq_true,if_false]
   exact ⟨λ_ _=>trivial,λ_=>J2.refl w1,λ_=>(J2.refl w1).x,go hw1⟩
  simp only [Bk] at h
  split at h
  ·rename_i hg
   exact run (by simp [Region.wanted,hg]) S hN h
  ·rename_i j want hg
   split at h
   ·rename_i g hjg
    have hyd1:∀ b,a.tmps[g]? = some (.bool b)->yielded all a.tmps j=some b:=λb e=>by simp [yielded,hjg,e]
    have hyd0:(∀ b,a.tmps[g]?≠some (.bool b))->yielded all a.tmps j=none:=λhne=>by
     simp only [yielded,hjg,Option.bind_some]
    have hslot:∀ v,st.sl.getD g (.tup [])=v->∀ V,a.tmps[g]? = some V->VP Γ (A2 st.hp) w v V:=λv hv V hV=>by
     have hlt:g<st.sl.length:=by rw [<-S.sr.size];exact (Array.getElem?_eq_some_iff.1 hV).1
     obtain ⟨U,e1,e2⟩:=S.sr.slot g hlt
     grind
    split at h
    ·rename_i b hb
     have hlt:g<st.sl.length:=Decidable.byContradiction λhge=>by grind
     obtain ⟨U,e1,e2⟩:=S.sr.slot g hlt
     have hU:=(hslot _ hb U e1).inv_bool
     subst hU
     have hyd':yielded all a.tmps j=some b:=hyd1 b e1
     have S':SI C I Γ Φ { st with sl:=st.sl.set g (.s (.bool b)) } a.tmps w:=⟨S.hr,S.sr.set g (hslot _ hb) (by simp [PV.nms]),S.g,S.inv,S.dis⟩
     have hsp:(if (b==want)=true then opK C cl yh o { st with sl:=st.sl.set g (.s (.bool b)) } (λst'=>Bk C cl yh all (rest.filterMap (all[·]?)) st' k) else Bk C cl yh all (rest.filterMap (all[·]?)) { st with sl:=V8 o.dst (.tup []) (st.sl.set g (.s (.bool b))) } k)=some r:=by
      cases b<;>exact h
     by_cases hbw:b=want
     ·rw [if_pos (by simpa using hbw)] at hsp
      exact run (by simp [Region.wanted,hg,hyd',hbw]) S' hN hsp
     ·rw [if_neg (by simpa using hbw)] at hsp
      exact skip (by simp [Region.wanted,hg,hyd',hbw]) S' hN hsp
    ·rename_i hb
     have hyd':yielded all a.tmps j=none:=hyd0 λb hbb=>by
      obtain ⟨B,e,_⟩:=(hslot _ hb _ hbb).inv_tup
      cases e
     exact skip (by simp [Region.wanted,hg,hyd']) S hN h
    grind
   ·cases h
def Bo2:Op->Bool
 | .defer _=>false
 | _=>true
def Ay:Option (List Nat × List Nat)->Nat->Bool
 | none,_=>false
 | some f,i=>okN f.1 i
def As7 (C:Cfg) (fd:Option (List Nat × List Nat)) (ops:Array Oper):Bool:=
 Region.noSelect ops&&(ops.toList.all (λo=>Bo2 o.op)&&(Nat.beq (Ox C ops.toList).length ops.size&&((Ox C ops.toList).all (λi=>Nat.ble (i+1) ops.size)&&FP .any ops (Ay fd) (G0 C ops) (Ox C ops.toList) (Array.replicate ops.size false))))
def UR (o:Oper):List Nat:=o.op.operands.toList.filterMap λx=>match x with | .tmp t=>some t | _=>none
def Dp (ops:Array Oper) (i4:Nat) (mid:List Nat):Bool:=match ops[i4]? with
 | some o4=>(match o4.dst with | some _=>true | none=>false)&&mid.all λi=>match ops[i]? with
  | some o=>(match o.dst with | some d=>!(UR o4).contains d && !(o4.dst==some d) | none=>true)
  | none=>false
 | none=>false
def TD (C:Cfg) (fd:Option (List Nat × List Nat)) (ops:Array Oper) (i4:Nat):Bool:=
 Region.noSelect ops&&(ops.toList.all (λo=>Bo2 o.op)&&(Nat.beq (Fg C ops++(Dq C ops i4++i4::Aq C ops i4)).length ops.size&&((Fg C ops++(Dq C ops i4++i4::Aq C ops i4)).all (λi=>Nat.ble (i+1) ops.size) &&
  (Dp ops i4 (Dq C ops i4)&&(Nat.beq (G0 C ops i4) 2&&Wp .any ops (Ay fd) (G0 C ops) (Kk .any ops (Ay fd) (G0 C ops) i4 (Aq C ops i4) (Dq C ops i4)) (Fg C ops) (Array.replicate ops.size false))))))
def TC (C:Cfg) (id:Nat) (ops:Array Oper):Bool:=match C.rowR id with
 | none=>As7 C (C.farR id) ops
 | some i=>Nat.ble ops.size i || TD C (C.farR id) ops i
def O7 (C:Cfg) (rf:Bool):Code->Bool
 | .region id ops d=>!d || TC C id ops
 | .seq a b=>O7 C rf a&&O7 C rf b
 | .cond _ a b=>O7 C rf a&&O7 C rf b
 | .block _ a=>O7 C rf a
 | .loop a=>O7 C rf a
 | .scope a=>O7 C rf a
 | .rangeFunc _ _ a b=>rf&&O7 C false a&&O7 C false b
 | _=>true
def Am2 (C:Cfg) (c:Code):Bool:=O7 C true c
def DX (Γ:Ctx) (w:World) (fd:Option (List Nat × List Nat)):Nat->Prop:=λg=>w.heap.size<=g\/∃ f b,fd=some f/\okN f.2 b=true/\Γ.nm b=some g
theorem Ln {P:Program} {t g o:Nat} {d:TypeDesc} {i:TypeInfo} {w w2:World} {V:Value} (hd:P.underlying t=some d) (hi:P.info? t=some i) (hpos:0<i.size) (hh:w2.heap[g]? = w.heap[g]?) (hc:∀ j,j<i.size->∃ U,w.cell? ⟨g,o+j,none⟩=some U)
  (h:(loadVar t ⟨g,o,none⟩).run P w = .ok V w):(loadVar t ⟨g,o,none⟩).run P w2 = .ok V w2:=by
 let As:Nat->Value:=λj=>(w.cell? ⟨g,o+j,none⟩).getD undef
 have hAs:∀ j,j<i.size->w.cell? ⟨g,o+j,none⟩=some (As j):=λj hj=>by obtain ⟨U,e⟩:=hc j hj;simp [As,e]
 have run:∀ W:World,(∀ j,W.cell? ⟨g,j,none⟩=w.cell? ⟨g,j,none⟩)->(loadVar t ⟨g,o,none⟩).run P W = .ok (if Df d=true then .agg ((List.range i.size).map As).toArray else As 0) W:=λW hW=>by
  by_cases ha:Df d=true
  ·have hl':=run_loadCells_list (P:=P) W ⟨g,o,none⟩ ((List.range i.size).map As) (λj v hv=>by
    rw [I5,hW]
    simp only [List.getElem?_map,Option.map_eq_some_iff] at hv
    obtain ⟨a,e1,e2⟩:=hv
    obtain ⟨h1,h2⟩:=List.getElem?_eq_some_iff.1 e1
    simp at h1 h2
    subst h2 e2
    exact hAs j (by omega))
   simp only [List.length_map,List.length_range] at hl'
   simp [loadVar,Ct hd,ha,sizeOf,typeInfo,hi,hl']
  ·have h0:=hAs 0 hpos
   rw [Nat.add_zero] at h0
   simp only [Bool.not_eq_true] at ha
   simp [loadVar,Ct hd,ha,hW,h0]
 rw [run w λ_=>rfl] at h
 rw [run w2 λj=>by simp only [World.cell?,hh]]
 simp only [Result.ok.injEq,and_true] at h ⊢
 exact h
section
variable {ΓF : Ctx} {HF : List Blk} {wF : World} {ΦF : Nat -> Prop}
theorem ZG {f:List Nat × List Nat} {b g:Nat} {cells:List PV} (hF:HR ΓF HF wF) (hs:Stp C ΓF HF wF ΦF Γ st.hp w Φ) (h1:Bh2 C (HF.getD b .dead)=true) (h2:okN f.2 b=false) (hg:Γ.nm b=some g):¬ DX ΓF wF (some f) g:=by
 have hb:b<HF.length:=Decidable.byContradiction λhge=>by
  rw [List.getD_eq_getElem?_getD,List.getElem?_eq_none (by omega)] at h1
  cases h1
 have hfx:Fc C (A2 HF b):=by
  rw [List.getD_eq_getElem?_getD,List.getElem?_eq_getElem hb,Option.getD_some] at h1
  unfold A2
  rw [List.getElem?_eq_getElem hb]
  cases he:HF[b] with
  | box c=>simp [Blk.shp,Fc]
  | arr v e' sz els=>rw [he] at h1;exact h1
  | _=>rw [he] at h1;cases h1
 have e:=(hs.keep b hb hfx).1
 rw [e] at hg
 rintro (hge | ⟨f',b',rfl',hb',hg'⟩)
 ·have:=(hF.lt b g hg).2.1;omega
 ·cases rfl'
  have:=hF.inj b b' g hg hg'
  subst this
  rw [h2] at hb';cases hb'
theorem An8 {f:List Nat × List Nat} {p:Bool} {t:Nat} {x:Operand} {V:Value} {w2:World} {k:St σ->Option R} (hop:o.op = .load t x) (hok:Tc C f p HF st.hp st.sl o=true) (hst:p=true->∀ g,Γ.St g->ΓF.St g) (h:opK C cl yh o st k=some r) (S:SI C I Γ Φ st a.tmps w) (hF:HR ΓF HF wF) (hs:Stp C ΓF HF wF ΦF Γ st.hp w Φ)
  (hl:Ig (DX ΓF wF (some f)) w w2) (hr:(execOp a.eval o).run C.P w = .ok (.value V) w):(execOp a.eval o).run C.P w2 = .ok (.value V) w2:=by
 unfold Tc at hok
 rw [hop] at hok
 simp only at hok
 split at hok
 ·rename_i b i off hx
  simp only [Bool.and_eq_true,Bool.not_eq_true'] at hok
  obtain ⟨_,h1,h2,h3⟩:=hok
  have hxA:=(S.opnd x).1
  rw [hx] at hxA
  obtain ⟨g,q,hg,hA,hti,hcell⟩:∃ g q,Γ.nm b=some g/\a.eval x = .pointer (some ⟨g,q,none⟩)/\(C.ti t).ok=true/\∀ j,j<(C.ti t).ks.length->∃ U,w.cell? ⟨g,q+j,none⟩=some U:=by
   rw [List.getD_eq_getElem?_getD] at h2
   cases hb:st.hp[b]? with
   | none=>rw [hb] at h2;cases h2
   | some y=>
    rw [hb] at h2
    cases y with
    | box cells=>
     obtain ⟨g,hg,hc,_⟩:=S.hr.box (C:=C) hb
     simp only [opK,hop,hx,Lm,hb] at h
     split at h
     ·rename_i hi0
      subst hi0
      obtain ⟨h4,_⟩:=B5 h
      have hlt:=RS h4
      refine ⟨g,off,hg,?_,by simp only [okP,Bool.and_eq_true] at h4;exact h4.1,λj hj=>?_⟩
      ·generalize a.eval x=A at hxA
       cases hxA with
       | ptrA _ _ _ g' v e sz n h' hg'=>simp [A2,hb,Blk.shp] at h'
       | ptrB _ _ g' h' hg'=>rw [hg] at hg';cases hg';rfl
      ·obtain ⟨U,e,_⟩:=hc (off+j) (hlt j hj)
       exact ⟨U,by simpa using e⟩
     ·cases h
    | arr v e sz els=>
     simp only [opK,hop,hx,Lm,hb] at h
     have fin:∀ q,(¬ (v=true/\els=[]))->q+(C.ti t).ks.length<=els.length*sz->(∀ g,Γ.nm b=some g->a.eval x = .pointer (some ⟨g,q,none⟩))->(C.ti t).ok=true->∃ g q,Γ.nm b=some g/\a.eval x = .pointer (some ⟨g,q,none⟩)/\(C.ti t).ok=true/\∀ j,j<(C.ti t).ks.length->∃ U,w.cell? ⟨g,q+j,none⟩=some U:=λq hne hq hA hti=>by
      obtain ⟨g,cur,hg,hh,hsz,_⟩:=S.hr.arr' hb hne
      refine ⟨g,q,hg,hA g hg,hti,λj hj=>?_⟩
      have hlt:q+j<cur.size:=by omega
      exact ⟨cur[q+j],by simp [World.cell?,hh,hlt]⟩
     have hA:∀ g,Γ.nm b=some g->a.eval x = .pointer (some ⟨g,i*sz+off,none⟩):=λg hg=>by
      generalize a.eval x=A at hxA
      cases hxA with
      | ptrA _ _ _ g' v' e' sz' n h' hg'=>
       obtain ⟨rfl,rfl,rfl,rfl⟩:=M9 hb h'
       rw [hg] at hg';cases hg';rfl
      | ptrB _ _ g' h' hg'=>simp [A2,hb,Blk.shp] at h'
     split at h
     ·rename_i hle
      obtain ⟨h4,_⟩:=B5 h
      simp only [Bool.and_eq_true,decide_eq_true_eq] at h4
      refine fin _ (by rintro ⟨_,rfl⟩;simp at h4) ?_ hA (by have:=h4.2;simp only [okS,Bool.and_eq_true] at this;exact this.1.1)
      have:(i+1)*sz<=els.length*sz:=Nat.mul_le_mul_right sz h4.1
      rw [Nat.add_mul,Nat.one_mul] at this
      omega
     ·split at h
      ·rename_i hi0
       obtain ⟨rfl,rfl⟩:=hi0
       obtain ⟨h4,_⟩:=B5 h
       simp only [Bool.and_eq_true,decide_eq_true_eq] at h4
       have hok':(C.ti t).ok=true:=by have:=h4.2;simp only [okS,Bool.and_eq_true] at this;exact this.1.1
       obtain ⟨_,_,_,_,_,_,hsz,_,hpos,_,_,hlen⟩:=Z4 hok'
       refine fin _ (by rintro ⟨_,rfl⟩;have:=h4.1;rw [List.length_nil,Nat.zero_mul] at this;omega) (by omega) hA hok'
      ·cases h
    | _=>cases h2
  have hnd:=ZG (f:=f) (cells:=[]) hF hs h1 h3 hg
  have hh:w2.heap[g]? = w.heap[g]?:=hl.1.1 g (S.hr.lt b g hg).2.1 hnd
  simp only [execOp,hop,hA,Instr.loadAt,Instr.sureAddr,Sem.run_bind,Sem.run_pure,Result.andThen] at hr ⊢
  cases hv:(loadVar t ⟨g,q,none⟩).run C.P w with
  | halt e w'=>rw [hv] at hr;simp at hr
  | ok V' w'=>
   rw [hv] at hr
   simp only [Result.ok.injEq,Next.value.injEq] at hr
   obtain ⟨rfl,rfl⟩:=hr
   obtain ⟨i,d,z,hi,hd,_,hsz,_,hpos,_,_,hlen⟩:=Z4 hti
   rw [Ln hd hi hpos hh (λj hj=>hcell j (by omega)) hv]
 ·rename_i els i off hx
  simp only [Bool.and_eq_true] at hok
  have hxA:=(S.opnd x).1
  rw [hx] at hxA
  have hs':=hxA.inv_s
  simp only [opK,hop,hx,Lm] at h
  obtain ⟨h4,_⟩:=B5 h
  simp only [okS,Bool.and_eq_true,decide_eq_true_eq] at h4
  obtain ⟨hi,⟨hti,hle⟩,_⟩:=h4
  obtain ⟨g,q,hA,hgs,hcell⟩:∃ g q,a.eval x = .pointer (some ⟨g,q,none⟩)/\Γ.St g/\∀ j,j<(C.ti t).ks.length->∃ U,w.cell? ⟨g,q+j,none⟩=some U:=by
   generalize a.eval x=A at hs'
   cases hs' with
   | sp _ _ _ g off0 sz Vs hg hl hc hv=>
    refine ⟨g,_,rfl,hg,λj hj=>⟨Vs i (off+j),?_⟩⟩
    have hlen:(els.getD i []).length=(els[i]).length:=by rw [List.getD_eq_getElem?_getD,List.getElem?_eq_getElem hi,Option.getD_some]
    have:=hc i hi (off+j) (by omega)
    rw [Nat.add_assoc]
    exact this
  have hgF:=hst hok.2 g hgs
  have hnd:¬ DX ΓF wF (some f) g:=by
   rintro (hge | ⟨f',b',_,_,hg'⟩)
   ·have:=hF.stlt g hgF;omega
   ·exact (hF.lt b' g hg').2.2 hgF
  have hh:w2.heap[g]? = w.heap[g]?:=hl.1.1 g (S.hr.stlt g hgs) hnd
  simp only [execOp,hop,hA,Instr.loadAt,Instr.sureAddr,Sem.run_bind,Sem.run_pure,Result.andThen] at hr ⊢
  cases hv:(loadVar t ⟨g,q,none⟩).run C.P w with
  | halt e w'=>rw [hv] at hr;simp at hr
  | ok V' w'=>
   rw [hv] at hr
   simp only [Result.ok.injEq,Next.value.injEq] at hr
   obtain ⟨rfl,rfl⟩:=hr
   obtain ⟨i,d,z,hi,hd,_,hsz,_,hpos,_,_,hlen⟩:=Z4 hti
   rw [Ln hd hi hpos hh (λj hj=>hcell j (by omega)) hv]
 ·cases hok
theorem ZH {f:List Nat × List Nat} {p:Bool} {t:Nat} {x y:Operand} {k:St σ->Option R} (hop:o.op = .store t x y) (hok:Tc C f p HF st.hp st.sl o=true) (h:opK C cl yh o st k=some r) (S:SI C I Γ Φ st a.tmps w) (hs:Stp C ΓF HF wF ΦF Γ st.hp w Φ) :
  ∃ w',(execOp a.eval o).run C.P w = .ok .skip w'/\Ig (DX ΓF wF (some f)) w w':=by
 unfold Tc at hok
 rw [hop] at hok
 simp only at hok
 split at hok
 ·rename_i b off hx
  simp only [Bool.and_eq_true,Bool.or_eq_true] at hok
  obtain ⟨_,h2,h3⟩:=hok
  obtain ⟨cells,hb⟩:∃ cells,st.hp[b]? = some (.box cells):=by
   rw [List.getD_eq_getElem?_getD] at h2
   cases he:st.hp[b]? with
   | none=>rw [he] at h2;cases h2
   | some y=>
    rw [he] at h2
    cases y with
    | box c=>exact ⟨c,rfl⟩
    | _=>cases h2
  obtain ⟨g,cur,e,hg,hh,hcur,_,_⟩:=S.hr.box' hb
  have hA:a.eval x = .pointer (some ⟨g,off,none⟩):=by
   have ha:=(S.opnd x).1
   rw [hx] at ha
   generalize a.eval x=A at ha
   cases ha with
   | ptrA _ _ _ g' v e sz n h' hg'=>simp [A2,hb,Blk.shp] at h'
   | ptrB _ _ g' h' hg'=>rw [hg] at hg';cases hg';rfl
  simp only [opK,hop,hx,Ng,hb,if_true] at h
  split at h
  ·rename_i hc
   obtain ⟨hti,hlen,hone⟩:=hc
   obtain ⟨h4,_⟩:=B5 h
   simp only [decide_eq_true_eq] at h4
   obtain ⟨i0,hi,hsz,hpos⟩:=I7 hti
   have hv:=(S.opnd y).1
   have hne:(opnd C st.sl y).cells≠[]:=by intro e;rw [e] at hlen;simp at hlen;omega
   have hvc:=hv.cells' hne
   have hcl:(opnd C st.sl y).cells.length=(a.eval y).cells.toList.length:=by simpa using hvc.1.symm
   have hcr:∀ j (h:j<(opnd C st.sl y).cells.length),∃ U,(a.eval y).cells.toList[j]? = some U/\VP Γ (A2 st.hp) w ((opnd C st.sl y).cells[j]) U:=λj hj=>by
    obtain ⟨U,e,k⟩:=hvc.2 j hj
    grind
   have h1c:=WF hcl hone hcr
   have hVs:(a.eval y).cells.size=i0.size:=by rw [hvc.1,hlen,hsz]
   obtain ⟨w',r1,r2,r3,r4,r5,r6,r7,r8⟩:=H9 (P:=C.P) (o:=off) hh (vs:=(a.eval y).cells.toList) (by rw [<-hcl,hlen,hcur];exact h4) h1c
   have hst:=Ci hi hVs r1
   refine ⟨w',?_,⟨λg' hg' hnd=>r3 g' λe=>hnd ?_,by omega⟩,r5,r6,r7⟩
   ·simp only [execOp,hop,hA]
    simp only [Sem.run_bind] at hst ⊢
    cases hq:(Instr.storeAt t (.pointer (some ⟨g,off,none⟩)) (a.eval y)).run C.P w with
    | halt e w'=>rw [hq] at hst;simp [Result.andThen] at hst
    | ok u w2=>
     rw [hq] at hst
     simp only [Result.andThen,Sem.run_pure,Result.ok.injEq,true_and] at hst
     rw [hst]
     rfl
   ·subst e
    rcases hs.own b _ hg with ⟨hb1,hb2⟩ | hge
    ·rcases h3 with h3 | h3
     ·exact .inr ⟨f,b,rfl,h3,hb2⟩
     ·have:=Qx h3;omega
    ·exact .inl hge
  ·cases h
 ·cases hok
def unb:Blk->Blk | .box _=>.dead | b=>b
def nob (H:List Blk):List Blk:=H.map unb
theorem Kv (H:List Blk) (b:Nat):(nob H)[b]? = (H[b]?).map unb:=List.getElem?_map ..
theorem ZE (H:List Blk):∀ v:PV,Bm (nob H) v=Bm H v
 | .fl b=>by simp only [Bm,Kv];cases H[b]? with | none=>rfl | some x=>cases x<;>rfl
 | .vw b i n=>by simp only [Bm,Kv];cases H[b]? with | none=>rfl | some x=>cases x<;>rfl
 | .s v=>by cases v<;>rfl
 | .nsl | .ptr _ _ _ | .fnr _ _ _ | .it _ | .yd | .agg _ | .tup _ | .bad=>rfl
theorem Ag0 (n:Nat) (H:List Blk):∀ v:PV,Bt n (nob H) v=Bt n H v
 | .fl b=>by simp only [Bt,Kv];cases H[b]? with | none=>rfl | some x=>cases x<;>rfl
 | .vw b i m=>by simp only [Bt,Kv];cases H[b]? with | none=>rfl | some x=>cases x<;>rfl
 | .s v=>by cases v<;>rfl
 | .nsl | .ptr _ _ _ | .fnr _ _ _ | .it _ | .yd | .agg _ | .tup _ | .bad=>rfl
theorem RL (H:List Blk) (v:PV):Jq (nob H) v=Jq H v:=by
 cases v with
 | s x=>cases x<;>rfl
 | _=>unfold Jq;exact ZE H _
def Nn (H:List Blk) (b:Nat):Bool:=Jl (H.getD b .dead)
theorem Wg {H:List Blk} {b:Nat} {v:Bool} {e sz:Nat} {els:List (List SV)} (h:H[b]? = some (.arr v e sz els)):Nn H b=false:=by simp [Nn,h,Jl]
theorem Af9 {n:Nat} {H:List Blk} {v:PV} (h:Bt n H v=true):∀ c∈v.nms,Nn H c=false:=by
 intro c hc
 cases v with
 | fl b=>
  obtain rfl:c=b:=by simpa [PV.nms] using hc
  simp only [Bt] at h
  split at h
  ·rename_i hb;exact Wg hb
  ·cases h
 | vw b i m=>
  obtain rfl:c=b:=by simpa [PV.nms] using hc
  simp only [Bt] at h
  split at h
  ·rename_i hb;exact Wg hb
  ·cases h
 | s x=>simp [PV.nms] at hc
 | nsl=>simp [PV.nms] at hc
 | _=>simp [Bt] at h
theorem IT {H:List Blk} {t:Nat} {sl:List PV} {s x:PV} {k:PV->List PV->List Blk->Option R} (h:Bu C t sl s x H k=some r) :
  (∃ u,Bu C t sl s x (nob H) (λ_ _ _=>some ())=some u)/\(∀ c∈s.nms,Nn H c=false)/\∀ c∈x.nms,Nn H c=false:=by
 unfold Bu at h ⊢
 simp only [Ag0,RL,Kv]
 split at h
 ·split at h
  ·rename_i hok
   rw [if_pos hok]
   simp only [Bool.and_eq_true] at hok
   have hx:=Af9 hok.2
   split at h
   ·rename_i news hn
    split at h
    ·obtain ⟨h1,_⟩:=B5 h
     exact ⟨⟨(),by simp only [need,h1];rfl⟩,by simp [PV.nms],hx⟩
    ·split at h
     ·rename_i hkk
      obtain ⟨h1,_⟩:=B5 h
      exact ⟨⟨(),by simp only [need,h1,hkk,if_true];rfl⟩,by simp [PV.nms],hx⟩
     ·cases h
    ·rename_i b
     split at h
     ·rename_i v e' sz els hb
      split at h
      ·rename_i hc
       obtain ⟨h1,_⟩:=B5 h
       refine ⟨⟨(),by simp only [hb,Option.map_some,unb,if_pos hc,need,h1];rfl⟩,λc hc=>?_,hx⟩
       obtain rfl:c=b:=by simpa [PV.nms] using hc
       exact Wg hb
      ·cases h
     ·cases h
    ·cases h
   ·cases h
  ·cases h
 ·cases h
def Ab8 (Γ:Ctx) (H:List Blk):Ctx:={ Γ with nm:=λb=>if Nn H b then none else Γ.nm b }
theorem Ot (Γ:Ctx) (H:List Blk) (w:World):T7 Γ (A2 H) w (Ab8 Γ H) (A2 (nob H)) w (λb=>Nn H b=false):=
 ⟨λ_ _=>rfl,λ_ h=>h,λb hb=>by simp only [Ab8];rw [hb];rfl,λb hb=>by
  simp only [A2,Kv]
  simp only [Nn,List.getD_eq_getElem?_getD] at hb
  cases he:H[b]? with
  | none=>rfl
  | some x=>rw [he] at hb;cases x with
   | box c=>cases hb
   | _=>rfl,λ_ _ _ _=>rfl,rfl⟩
theorem Be8 {Γ:Ctx} {w:World} {H:List Blk} (hH:HR Γ H w):HR (Ab8 Γ H) (nob H) w:=by
 have hnm:∀ b g,(Ab8 Γ H).nm b=some g->Nn H b=false/\Γ.nm b=some g:=λb g h=>by
  simp only [Ab8] at h
  split at h
  ·cases h
  ·rename_i hn;exact ⟨by simpa using hn,h⟩
 refine ⟨λb b' g h1 h2=>hH.inj b b' g (hnm b g h1).2 (hnm b' g h2).2,λb g h=>by have:=hH.lt b g (hnm b g h).2;exact ⟨by simpa [nob] using this.1,this.2⟩,hH.stlt,λb hb c hc=>?_,λb hb=>?_⟩
 ·simp only [nob,List.getElem_map] at hc
  cases hx:H[b]'(by simpa [nob] using hb)<;>rw [hx] at hc<;>simp [unb,Blk.nms] at hc
 ·have hb':b<H.length:=by simpa [nob] using hb
  have:=hH.blk b hb'
  simp only [nob,List.getElem_map]
  cases hx:H[b] with
  | box c=>trivial
  | _=>
   rw [hx] at this
   have hn:Nn H b=false:=by simp [Nn,hb',hx,Jl]
   exact this.mono (Ot Γ H w) ((Ot Γ H w).nm b hn) (λ_ _=>rfl) (λc hc=>by simp [Blk.nms] at hc)
theorem PY {f:List Nat × List Nat} {c:Call} {k:St σ->Option R} (hop:o.op = .call c) (hcb:c.callee = .builtin .append) (hd:∀ b,b<HF.length->okN f.2 b=true\/Nn st.hp b=true) (h:opK C cl yh o st k=some r) (S:SI C I Γ Φ st a.tmps w) (hF:HR ΓF HF wF) (hs:Stp C ΓF HF wF ΦF Γ st.hp w Φ) :
  ∃ V w',(execOp a.eval o).run C.P w = .ok (.value V) w'/\Ig (DX ΓF wF (some f)) w w':=by
 have key:∀ (ts:List Nat) (args:List PV),c.argTypes.toList=ts->c.args.toList.map (opnd C st.sl)=args->Au C .append ts args st (λv st'=>k { st' with sl:=V8 o.dst v st'.sl })=some r->
   ∃ V w',(execOp a.eval o).run C.P w = .ok (.value V) w'/\Ig (DX ΓF wF (some f)) w w':=by
  intro ts args hts hargs h
  unfold Au at h
  dsimp only at h
  split at h
  ·contradiction
  ·rename_i t u s x _
   obtain ⟨s0,x0,hx0,rfl,rfl⟩:=WG hargs
   have hts':c.argTypes=[t,u].toArray:=by rw [<-hts]
   split at h
   ·rename_i hu
    obtain ⟨⟨u1,h1⟩,n1,n2⟩:=IT h
    obtain ⟨v,sl',H',hk,hv⟩:=Lk (ty:=o.type) (tmps:=a.tmps) (Be8 S.hr) hu h1 ((S.opnd s0).1.mono (Ot Γ st.hp w) n1) ((S.opnd x0).1.mono (Ot Γ st.hp w) n2)
    obtain ⟨V,w',Γ',hrun,hst,_⟩:=hv
    refine ⟨V,w',?_,⟨⟨λg hg hnd=>hst.frame g hg (λb hb=>hnd ?_) (λx=>x),hst.size⟩,hst.os,hst.tape,hst.output⟩⟩
    ·obtain ⟨cs,he⟩:=T0 (ρ:=a.eval) hop hcb
     rw [he,hx0,hts']
     simp [builtin,hrun]
    ·have hb0:Nn st.hp b=false/\Γ.nm b=some g:=by
      simp only [Ab8] at hb
      split at hb
      ·cases hb
      ·rename_i hn;exact ⟨by simpa using hn,hb⟩
     rcases hs.own b g hb0.2 with ⟨hb1,hb2⟩ | hge
     ·refine .inr ⟨f,b,rfl,?_,hb2⟩
      rcases hd b hb1 with q | q
      ·exact q
      ·rw [hb0.1] at q;cases q
     ·exact .inl hge
   ·cases h
  all_goals contradiction
 simp only [opK,hop,hcb] at h
 exact key _ _ rfl rfl h
theorem Xy {ro:Option Nat} {n:Nat} {all:Array Oper} {E:Act->World->Prop} {f:List Nat × List Nat} (A:Ask C I cl yh yv) (hF:HR ΓF HF wF):∀ (rest:List Nat) {p:Bool} {Γ:Ctx} {Φ:Nat->Prop} {st:St σ} {a:Act} {w:World} {k:St σ->Option R},(∀ i∈rest,i<all.size)->Γ.yv=yv->(p=true->∀ g,Γ.St g->ΓF.St g)->
  Ow C cl yh all f HF p rest st k=some r->SI C I Γ Φ st a.tmps w->Stp C ΓF HF wF ΦF Γ st.hp w Φ->Nxt C I Γ Φ st.hp w a.defers k r E->J4 (E5 ro) n C.P all (DX ΓF wF (some f)) (Ay (some f)) (G0 C all) E rest a w
 | [],p,Γ,Φ,st,a,w,k,hlt,hyv,hst,h,S,hs,hN=>hN st a w Γ Φ h (Stp.refl S.hr) S rfl
 | i::rest,p,Γ,Φ,st,a,w,k,hlt,hyv,hst,h,S,hs,hN=>by
  have hil:=hlt i (by simp)
  obtain ⟨o,ho⟩:∃ o,all[i]? = some o:=⟨all[i],Array.getElem?_eq_getElem hil⟩
  simp only [Ow] at h
  obtain ⟨hc,h⟩:=B5 h
  have next:Ah6 C I Γ Φ st.hp w a.defers (λst'=>Ow C cl yh all f HF (p&&Nat.ble (G0 C all i) 1) rest st' k) r (∀ j∈[i],G0 C all j<=1) (J4 (E5 ro) n C.P all (DX ΓF wF (some f)) (Ay (some f)) (G0 C all) E rest):=λst' a' w' Γ' Φ' k1 k2 k3 k4 k5=>
   Xy A hF rest (λj hj=>hlt j (by simp [hj])) (k2.yv.trans hyv) (λhp g hg=>by
    simp only [Bool.and_eq_true] at hp
    exact hst hp.1 g (k5 (λj hj=>by simp at hj;subst hj;exact Nat.le_of_ble_eq_true hp.2) g hg)) k1 k3 (hs.trans k2) λst2 a2 w2 Γ2 Φ2 q1 q2 q3 q4=>hN st2 a2 w2 Γ2 Φ2 q1 (k2.trans q2) q3 (q4.trans k4)
  cases hfi:Ay (some f) i with
  | false=>
   have:=Ak (ro:=ro) (n:=n) (D:=DX ΓF wF (some f)) (far:=Ay (some f)) A [i] (λj hj=>by simp at hj;subst hj;exact ⟨hil,hfi⟩) hyv h S next
   simp only [J4] at this ⊢
   exact this
  | true=>
   have hfo:Tc C f p HF st.hp st.sl o=true:=by
    have e:okN f.1 i=true:=hfi
    rw [ho] at hc
    simpa [e] using hc
   have hg:o.guard=none:=by
    unfold Tc at hfo
    split at hfo
    ·split at hfo
     ·simp only [Bool.and_eq_true,Option.isNone_iff_eq_none] at hfo;exact hfo.1
     ·simp only [Bool.and_eq_true,Option.isNone_iff_eq_none] at hfo;exact hfo.1
     ·cases hfo
    ·split at hfo
     ·simp only [Bool.and_eq_true,Option.isNone_iff_eq_none] at hfo;exact hfo.1
     ·cases hfo
    ·split at hfo
     ·simp only [Bool.and_eq_true,Option.isNone_iff_eq_none] at hfo;exact hfo.1
     ·cases hfo
    ·cases hfo
   have hwt:Region.wanted o (yielded all a.tmps)=true:=by simp [Region.wanted,hg]
   have h:opK C cl yh o st (λst'=>Ow C cl yh all f HF (p&&Nat.ble (G0 C all i) 1) rest st' k)=some r:=by
    rw [List.filterMap_cons,ho] at h
    simp only [List.filterMap_nil,Bk,hg] at h
    exact h
   simp only [J4,hfi]
   have hkd:G0 C all i=V6 C o.op:=by simp only [G0,ho]
   rw [hkd]
   have hcase:(∃ t x,o.op = .load t x)\/(∃ t x y,o.op = .store t x y)\/∃ c,o.op = .call c/\c.callee = .builtin .append/\∀ b,b<HF.length->okN f.2 b=true\/Nn st.hp b=true:=by
    unfold Tc at hfo
    split at hfo
    ·rename_i t x e;exact .inl ⟨t,x,e⟩
    ·rename_i t x y e;exact .inr (.inl ⟨t,x,y,e⟩)
    ·rename_i c e
     split at hfo
     ·rename_i hcb
      simp only [Bool.and_eq_true,List.all_eq_true,List.mem_range,Bool.or_eq_true] at hfo
      exact .inr (.inr ⟨c,e,hcb,hfo.2⟩)
     ·cases hfo
    ·cases hfo
   rcases hcase with ⟨t,x,hop⟩ | ⟨t,x,y,hop⟩ | ⟨c,hop,hcb,hd⟩
   ·have hk:V6 C o.op=1:=by rw [hop];rfl
    rw [hk]
    refine ⟨λ_=>?_,λhk2=>by omega⟩
    obtain ⟨V,st',h1,h2,h3,h4⟩:=Kx (a:=a) (show J9 C o.op=true by rw [hop];rfl) h S
    refine ⟨o,V,ho,⟨λ_ _ _ _=>trivial,.inl ⟨hwt,λw' hw'=>?_⟩⟩,next st' (a.put o.dst V) w Γ Φ h1 (h4.lift Φ) h3 (put_defers _ _ _) (λ_ _ h=>h)⟩
    unfold Oper.quietAtIn
    rw [An8 hop hfo hst h S hF hs (hw'.2 rfl) (h2 w (Ext.refl w))]
    exact ⟨rfl,rfl⟩
   ·have hk:V6 C o.op=3:=by rw [hop];rfl
    rw [hk]
    refine ⟨λhk2=>by omega,λ_ w1 hw1=>?_⟩
    obtain ⟨S1,hs1⟩:=S.like A.hI hw1
    obtain ⟨w2,hr,hx⟩:=ZH hop hfo h S1 (hs.trans hs1)
    have hw:=GP (ro:=ro) (n:=n) (Q:=QF) A hyv h S1 λst' a' w' Γ' Φ' q1 q2 q3 q4=>next st' a' w' Γ' Φ' q1 (hs1.trans q2) q3 q4 λhq=>absurd (hq i (by simp)) (by rw [hkd,hk];omega)
    unfold wpOpIn
    simp only [ho,hwt,if_true]
    unfold Oper.wpIn at hw ⊢
    refine ⟨hw.1,?_⟩
    have h5:=hw.2
    rw [Oper.semAt_eq _ _ _ (λc e=>by rw [hop] at e;cases e),hr] at h5 ⊢
    simp only [Oper.uponIn] at h5 ⊢
    exact ⟨λe=>by omega,λ_=>hx,h5⟩
   ·have hk:V6 C o.op=3:=by rw [hop];simp [V6,Pb,J9,Gg,JO,hcb]
    rw [hk]
    refine ⟨λhk2=>by omega,λ_ w1 hw1=>?_⟩
    obtain ⟨S1,hs1⟩:=S.like A.hI hw1
    obtain ⟨V,w2,hr,hx⟩:=PY hop hcb hd h S1 hF (hs.trans hs1)
    have hw:=GP (ro:=ro) (n:=n) (Q:=QF) A hyv h S1 λst' a' w' Γ' Φ' q1 q2 q3 q4=>next st' a' w' Γ' Φ' q1 (hs1.trans q2) q3 q4 λhq=>absurd (hq i (by simp)) (by rw [hkd,hk];omega)
    unfold wpOpIn
    simp only [ho,hwt,if_true]
    unfold Oper.wpIn at hw ⊢
    refine ⟨hw.1,?_⟩
    have h5:=hw.2
    rw [Oper.semAt_eq _ _ _ (λc e=>by rw [hop] at e;cases e),hr] at h5 ⊢
    simp only [Oper.uponIn] at h5 ⊢
    exact ⟨λe=>by omega,λ_=>hx,h5⟩
theorem Dk {ro:Option Nat} {n:Nat} {all:Array Oper} {E:Act->World->Prop} {fd:Option (List Nat × List Nat)} (A:Ask C I cl yh yv) (hF:HR ΓF HF wF) (rest:List Nat) {p:Bool} {Γ:Ctx} {Φ:Nat->Prop} {st:St σ} {a:Act} {w:World} {k:St σ->Option R} (hlt:∀ i∈rest,i<all.size) (hyv:Γ.yv=yv) (hst:p=true->∀ g,Γ.St g->ΓF.St g)
  (h:Gf C cl yh all fd HF p rest st k=some r) (S:SI C I Γ Φ st a.tmps w) (hs:Stp C ΓF HF wF ΦF Γ st.hp w Φ) (hN:Nxt C I Γ Φ st.hp w a.defers k r E):J4 (E5 ro) n C.P all (DX ΓF wF fd) (Ay fd) (G0 C all) E rest a w:=by
 cases fd with
 | none=>exact Ak A rest (λi hi=>⟨hlt i hi,rfl⟩) hyv h S hN.q
 | some f=>exact Xy A hF rest hlt hyv hst h S hs hN
end
theorem Ad9 {ro:Option Nat} {n id:Nat} {ops:Array Oper} {Q:Exit->Act->World->Prop} {k:St σ->Option R} (A:Ask C I cl yh yv) (hm:C.P.follows .mixedOrders=true) {fd:Option (List Nat × List Nat)} (hok:As7 C fd ops=true) (hyv:Γ.yv=yv) (h:Gf C cl yh ops fd st.hp true (Ox C ops.toList) st k=some r) (S:SI C I Γ Φ st a.tmps w)
  (hN:Nxt C I Γ Φ st.hp w a.defers k r (λa' w'=>Q .normal a' w')):(Code.region id ops true).wpIn (E5 ro) n C.P Q a w:=by
 simp only [As7,Bool.and_eq_true] at hok
 obtain ⟨h1,h2,h3,h4,h5⟩:=hok
 rw [List.all_eq_true] at h2 h4
 refine Qc (D:=DX Γ w fd) (far:=Ay fd) (kind:=G0 C ops) (ord:=Ox C ops.toList) hm h1 (λj o c ho e=>?_) (λj hj=>?_) (Nat.eq_of_beq_eq_true h3) h5 (Dk A S.hr _ (λi hi=>Qx (h4 i hi)) hyv (λ_ _ h=>h) h S (Stp.refl S.hr) λst' a' w' Γ' Φ' k1 k2 k3 k4 w1 hw1=>?_)
 case refine_3=>
  obtain ⟨S1,hs1⟩:=k3.like A.hI hw1
  exact hN st' a' w1 Γ' Φ' k1 (k2.trans hs1) S1 k4
 ·have:=h2 o (by simpa using Array.mem_of_getElem? ho)
  rw [e] at this
  cases this
 ·simp only [G0,Array.getElem?_eq_none hj]
  exact Nat.le_refl _
def Trn.B (C:Cfg) (V:Value) (x:Obj) (g:Nat):Trn->Prop
 | .row v=>∀ (St:Nat->Prop) (w1:World),St g->w1.heap[g]? = some x->VS St w1 v V
 | .var e=>(C.ti e).ok=true/\(∀ n el,C.sh e≠.array n el)/\V = .pointer (some ⟨g,0,none⟩)/\∃ z:Value,x = .cells z.cells e/\∀ (Γ:Ctx) sh w,CR Γ sh w ((C.ti e).ks.map W4) z.cells
def II (C:Cfg) (o:Oper) (ev:Operand->Value) (t:Trn):Prop:=∀ w:World,∃ V x,(execOp ev o).run C.P w = .ok (.value V) (w.alloc x)/\t.B C V x w.heap.size
def At4 (op:Op):Prop:=(∃ t len ps,op = .buildSlice t len ps)\/∃ e,op = .alloc e
theorem Ar7 {St St':Nat->Prop} {w w':World} {v:SV} {U:Value} (hp:v.plain=true) (h:VS St w v U):VS St' w' v U:=by
 cases h with
 | bool b=>exact .bool b
 | int k n=>exact .int k n
 | str s=>exact .str s
 | nilp=>exact .nilp
 | nilm=>exact .nilm
 | nilf=>exact .nilf
 | _=>simp [SV.plain] at hp
theorem TZ {k:Trn->Option R} (S:SI C I Γ Φ st a.tmps w) (h:TY C o st.sl k=some r):o.guard=none/\At4 o.op/\∃ t,k t=some r/\II C o a.eval t:=by
 unfold TY at h
 split at h
 ·rename_i e hg hop
  refine ⟨hg,.inr ⟨_,hop⟩,?_⟩
  split at h
  ·cases h
  ·rename_i hsh
   obtain ⟨hok,h⟩:=B5 h
   refine ⟨_,h,λw1=>?_⟩
   obtain ⟨z,h1,h2,_⟩:=AH (Γ:=Γ) (ev:=a.eval) (w:=w1) hok hop
   exact ⟨_,_,h1,hok,hsh,rfl,z,rfl,h2⟩
 ·rename_i t len parts hg hop
  refine ⟨hg,.inl ⟨_,_,_,hop⟩,?_⟩
  split at h
  ·rename_i e hsh
   split at h
   ·rename_i hok
    simp only [Bool.and_eq_true,decide_eq_true_eq] at hok
    obtain ⟨⟨hok,hsmall⟩,hlen⟩:=hok
    split at h
    ·rename_i out hf
     split at h
     ·rename_i vs hvs
      obtain ⟨hpl,h⟩:=B5 h
      refine ⟨_,h,?_⟩
      obtain ⟨hp,_⟩:=S.parts parts.toList
      obtain ⟨i,z,hi,hz,hsz,hCR⟩:=Ie (Γ:=Γ) (sh:=A2 st.hp) (w:=w) hok
      obtain ⟨_,_,_,hpos⟩:=I7 hok
      have hks:0<(C.ti e).ks.length:=by rename_i h1 h2;omega
      have hM:=XN hCR (by simpa using hks) len
      rw [List.length_map] at hM
      obtain ⟨B,e1,e2,e3⟩:=De (place':=λj=>some (j*i.size,i.size)) (λj off size hj h0=>by rw [hsz];exact hj) hf hM hp
      obtain ⟨f1,f2⟩:=T4 (As:=B.toList) hvs (by simpa using e2.1.symm) (λj hj=>by
       obtain ⟨U,e,k⟩:=e2.2 j hj
       exact ⟨U,by simpa using e,k⟩)
      have hBs:B.size=len*(C.ti e).ks.length:=by
       have hlenf:∀ {place:Nat->Option (Nat × Nat)} {ps:List (Nat × PV)} {cells out:List PV},Ed place cells ps=some out->out.length=cells.length:=by
        intro place ps
        induction ps with
        | nil=>intro cells out h;simp only [Ed,Option.some.injEq] at h;rw [h]
        | cons p ps ih=>
         intro cells out h
         obtain ⟨i,v⟩:=p
         simp only [Ed] at h
         split at h
         ·split at h
          ·rw [ih h,C3]
          grind
         grind
       rw [e2.1,hlenf hf,Ee,List.length_map]
      have hvl:vs.length=len*(C.ti e).ks.length:=by rw [f1,Array.length_toList,hBs]
      intro w2
      have hr:=Du (P:=C.P) w2 len (parts.map λ(i,x)=>(i,a.eval x)) B (G8 hsh) hi hz (by rw [hsz];exact hsmall) (by rw [hsz] at e1 ⊢;rw [Array.toList_map];exact e1)
      refine ⟨.slice (some ⟨w2.heap.size,0,none⟩) len len,.cells B e,by simp only [execOp,hop];simp [hr],λSt w1 hSt hx=>?_⟩
      refine .sl true _ w2.heap.size 0 len len _ (λi j=>(B[i*(C.ti e).ks.length+j]?).getD undef) (by rw [S7]) (Nat.le_refl _) (by simp only [maxLen];omega) (λ_=>rfl) hSt (λi hi=>(Cm _ _ _ hvl i hi).1) (λi hi j hj=>?_) (λi hi j hj=>?_)
      ·obtain ⟨h2,_⟩:=(Cm _ _ _ hvl i hi).2 j hj
       have:i*(C.ti e).ks.length+j<B.size:=by rw [hBs,<-hvl];exact h2
       simp [World.cell?,hx,this]
      ·obtain ⟨h2,e4⟩:=(Cm _ _ _ hvl i hi).2 j hj
       obtain ⟨U,e5,k5⟩:=f2 _ h2
       rw [e4]
       have e6:(B[i*(C.ti e).ks.length+j]?).getD undef=U:=by grind
       rw [e6]
       exact Ar7 (List.all_eq_true.1 hpl _ (List.getElem_mem h2)) k5
     grind
    grind
   ·cases h
  ·cases h
 ·cases h
theorem OG {d:Option Tmp} {a a':Act} (h:AB d a a') {o4:Oper} (hd:∀ t,d=some t->t∉UR o4):∀ x∈o4.op.operands,a'.eval x=a.eval x:=by
 intro x hx
 cases x with
 | tmp t=>
  have:d≠some t:=λe=>hd t e (List.mem_filterMap.2 ⟨.tmp t,by simpa using hx,rfl⟩)
  have e:=h t this
  simp only [Act.eval,Array.getD_eq_getD_getElem?,e]
 | _=>rfl
theorem A88 {ro:Option Nat} {n:Nat} {all:Array Oper} {i4:Nat} {o4:Oper} {t:Trn} (ho:all[i4]? = some o4) (hg:o4.guard=none) (hop:At4 o4.op) (hrow:II C o4 a.eval t) {K:Act->World->Prop}
  (h:∀ V x,t.B C V x w.heap.size->K (a.put o4.dst V) (w.alloc x)):wpOpIn (E5 ro) n C.P all QF i4 K a w:=by
 unfold wpOpIn
 simp only [ho]
 rw [if_pos (by simp [Region.wanted,hg])]
 refine ⟨λ_ _=>trivial,?_⟩
 rw [Oper.semAt_eq _ _ _ (λc e=>by rcases hop with ⟨_,_,_,h⟩ | ⟨_,h⟩<;>rw [h] at e<;>cases e)]
 obtain ⟨V,x,h1,h2⟩:=hrow w
 rw [h1]
 exact h V x h2
structure IG (C:Cfg) (d:Option Tmp) (t:Trn) (g:Nat) (x:Obj) (Γ:Ctx) (Φ:Nat->Prop) (a:Act) (w:World):Prop where
 at':w.heap[g]? = some x
 st:¬ Γ.St g
 nm:∀ b,Γ.nm b≠some g
 fo:¬ Φ g
 ex:∃ V,t.B C V x g
 val:∀ V,(∃ t,d=some t/\a.tmps[t]? = some V)->t.B C V x g
theorem ML (S:SI C I Γ Φ st a.tmps w) (d:Option Tmp):SI C I Γ Φ { st with sl:=V8 d .bad st.sl } a.tmps w:=by
 cases d with
 | none=>exact S
 | some t=>exact ⟨S.hr,S.sr.set t (λV _=>.bad V) (by simp [PV.nms]),S.g,S.inv,S.dis⟩
theorem YF (S:SI C I Γ Φ st a.tmps w) {d:Option Tmp} {v:PV} (h:∀ V,(∃ t,d=some t/\a.tmps[t]? = some V)->VP Γ (A2 st.hp) w v V) (hn:∀ c∈v.nms,c<st.hp.length):SI C I Γ Φ { st with sl:=V8 d v st.sl } a.tmps w:=by
 cases d with
 | none=>exact S
 | some t=>exact ⟨S.hr,S.sr.set t (λV hV=>h V ⟨t,rfl,hV⟩) hn,S.g,S.inv,S.dis⟩
theorem IG.step {Γ':Ctx} {Φ':Nat->Prop} {H':List Blk} {a':Act} {w':World} {d4 d:Option Tmp} {t:Trn} {g:Nat} {x:Obj} (h:IG C d4 t g x Γ Φ a w) (hs:Stp C Γ st.hp w Φ Γ' H' w' Φ') (hag:AB d a a') (hne:d4≠none->d≠d4):IG C d4 t g x Γ' Φ' a' w':=by
 have hlt:g<w.heap.size:=(Array.getElem?_eq_some_iff.1 h.at').1
 refine ⟨by rw [hs.frame g hlt h.nm h.fo];exact h.at',λe=>?_,λb e=>?_,λe=>?_,h.ex,?_⟩
 ·rcases hs.stnew g e with e | e
  ·exact h.st e
  ·omega
 ·rcases hs.own b g e with ⟨_,e⟩ | e
  ·exact h.nm b e
  ·omega
 ·rcases hs.foot g e with e | e
  ·exact h.fo e
  ·omega
 ·rintro V ⟨t,ht,hV⟩
  have:d≠some t:=λe=>hne (by rw [ht];simp) (by rw [e,ht])
  rw [hag t this] at hV
  exact h.val V ⟨t,ht,hV⟩
theorem Wa {H:List Blk} (x:Blk) (g:Nat):T7 Γ (A2 H) w (Γ.upd H.length g) (A2 (H++[x])) w (· < H.length):=
 ⟨λ_ _=>rfl,λ_ h=>h,λb hb=>by simp only [Ctx.upd];rw [if_neg (by omega)],λb hb=>K9 hb,λ_ _ _ _=>rfl,rfl⟩
theorem Stp.adopt {Γ0:Ctx} {H0 H:List Blk} {w0:World} {Φ0:Nat->Prop} {g:Nat} (x:Blk) (hs:Stp C Γ0 H0 w0 Φ0 Γ H w Φ) (hg:w0.heap.size<=g):Stp C Γ0 H0 w0 Φ0 (Γ.upd H.length g) (H++[x]) w Φ:=by
 have hl:=hs.len
 refine ⟨hs.os,hs.tape,hs.output,hs.size,hs.sub,hs.stnew,λb g' h=>?_,hs.foot,hs.frame,hs.yv,by simp;omega,λb hb hf=>?_⟩
 ·simp only [Ctx.upd] at h
  split at h
  ·grind
  ·exact hs.own b g' h
 ·obtain ⟨p1,p2,p3⟩:=hs.keep b hb hf
  exact ⟨by simp only [Ctx.upd];rw [if_neg (by omega)];exact p1,by rw [K9 (by omega)];exact p2,p3⟩
theorem SI.adopt (S:SI C I Γ Φ st a.tmps w) {x:Blk} {g:Nat} (hlt:g<w.heap.size) (h1:¬ Γ.St g) (h2:∀ b,Γ.nm b≠some g) (h3:¬ Φ g) (hb:BR (Γ.upd st.hp.length g) (A2 (st.hp++[x])) w st.hp.length x) (hn:∀ c∈x.nms,c<st.hp.length+1) :
  SI C I (Γ.upd st.hp.length g) Φ { st with hp:=st.hp++[x] } a.tmps w:=by
 have M:T7 Γ (A2 st.hp) w (Γ.upd st.hp.length g) (A2 (st.hp++[x])) w (· < st.hp.length):=Wa x g
 refine ⟨⟨λb b' g' k1 k2=>?_,λb g' h=>?_,S.hr.stlt,λb hb' c hc=>?_,λb hb'=>?_⟩,SR.grow M S.sr,S.g,S.inv,λb g' h=>?_⟩
 ·simp only [Ctx.upd] at k1 k2
  split at k1<;>split at k2
  ·omega
  ·rw [<-k1] at k2;exact absurd k2 (h2 b')
  ·rw [<-k2] at k1;exact absurd k1 (h2 b)
  ·exact S.hr.inj b b' g' k1 k2
 ·simp only [Ctx.upd] at h
  split at h
  ·simp only [Option.some.injEq] at h
   subst h
   exact ⟨by simp;omega,hlt,h1⟩
  ·have:=S.hr.lt b g' h
   exact ⟨by simp;omega,this.2⟩
 ·rw [List.length_append,List.length_singleton] at hb' ⊢
  by_cases e:b=st.hp.length
  ·subst e
   simp at hc
   exact hn c hc
  ·have hb2:b<st.hp.length:=by omega
   rw [List.getElem_append_left hb2] at hc
   have:=S.hr.nms b hb2 c hc;omega
 ·rw [List.length_append,List.length_singleton] at hb'
  by_cases e:b=st.hp.length
  ·subst e
   simpa using hb
  ·have hb2:b<st.hp.length:=by omega
   rw [List.getElem_append_left hb2]
   exact (S.hr.blk b hb2).mono M (M.nm b hb2) (λ_ _=>rfl) (λc hc=>S.hr.nms b hb2 c hc)
 ·simp only [Ctx.upd] at h
  split at h
  ·simp only [Option.some.injEq] at h
   subst h
   exact h3
  ·exact S.dis b g' h
theorem VB {k:St σ->Option R} {d:Option Tmp} {t:Trn} {g:Nat} {x:Obj} (hI:HI I) (S:SI C I Γ Φ st a.tmps w) (h:Lq C d t st k=some r) (hah:IG C d t g x Γ Φ a w) :
  ∃ st' Γ',k st'=some r/\SI C I Γ' Φ st' a.tmps w/\∀ {Γ0:Ctx} {H0:List Blk} {w0:World} {Φ0:Nat->Prop},Stp C Γ0 H0 w0 Φ0 Γ st.hp w Φ->w0.heap.size<=g->Stp C Γ0 H0 w0 Φ0 Γ' st'.hp w Φ:=by
 have hlt:g<w.heap.size:=(Array.getElem?_eq_some_iff.1 hah.at').1
 cases t with
 | row v=>
  have S':=S.wideSt hI (St':=λy=>Γ.St y\/y=g) (λ_ h=>.inl h) (λy hy=>by rcases hy with hy | rfl;exact λe=>(hI.foot _ _ _ _ S.inv y e).2 hy;exact hah.fo) (λb y hb=>by
   rintro (hy | rfl)
   ·exact (S.hr.lt b y hb).2.2 hy
   ·exact hah.nm b hb) (λy hy=>by rcases hy with hy | rfl;exact S.hr.stlt y hy;exact hlt)
  exact ⟨_,_,h,YF S' (λV hV=>.s _ _ (hah.val V hV _ _ (.inr rfl) hah.at')) (by simp [PV.nms]),λhs hg=>⟨hs.os,hs.tape,hs.output,hs.size,λy hy=>.inl (hs.sub y hy),λy hy=>by rcases hy with hy | rfl;exact hs.stnew y hy;exact .inr hg,hs.own,hs.foot,hs.frame,hs.yv,hs.len,hs.keep⟩⟩
 | var e=>
  obtain ⟨_,hok,hsh,_,z,rfl,hz⟩:=hah.ex
  simp only [Lq,Ub,hok,if_true] at h
  have hc:=hz Γ (A2 st.hp) w
  obtain ⟨T,e1,e2,e3,e4,e5,e6,e7⟩:=R2 (C:=C) (C.nilT e) ((C.ti e).ks.map W4) 0 st.hp z.cells.toList S.hr (by simpa using hc.1.symm) (λj hj=>by
   obtain ⟨U,e,k⟩:=hc.2 j hj
   exact ⟨U,by simpa using e,k⟩) (by rw [Qd];simp)
  rw [e1] at h
  have S1:SI C I Γ Φ { st with hp:=st.hp++T } a.tmps w:=⟨e2,SR.grow e4 S.sr,S.g,S.inv,S.dis⟩
  have S2:=S1.adopt (x:=.box (E9 (C.nilT e) ((C.ti e).ks.map W4) 0 st.hp).1) hlt hah.st hah.nm hah.fo ⟨g,z.cells,e,by simp [Ctx.upd],hah.at',by simpa using e5.symm,λj hj=>by
   obtain ⟨U,f1,f2⟩:=e6 j hj
   exact ⟨U,by simpa using f1,f2.mono (Wa _ g) λc hc=>e7 c (B6.2 ⟨j,hj,hc⟩)⟩⟩ (λc hc=>by have:=e7 c hc;simp only at this ⊢;omega)
  exact ⟨_,_,h,YF S2 (λV hV=>by
   obtain ⟨_,_,rfl,_⟩:=hah.val V hV
   exact .ptrB _ 0 g G2 (by simp [Ctx.upd])) (by simp [PV.nms]),λhs hg=>Stp.adopt _ (hs.trans (e3.lift Φ)) hg⟩
theorem AI {all:Array Oper} {i4:Nat} {o4:Oper} {i:Nat} {rest:List Nat} (ho:all[i4]? = some o4) (hap:Dp all i4 (i::rest)=true):∃ o,all[i]? = some o/\(∀ t,o.dst=some t->t∉UR o4)/\(o4.dst≠none->o.dst≠o4.dst)/\Dp all i4 rest=true:=by
 unfold Dp at hap ⊢
 grind
section
variable {ΓF : Ctx} {HF : List Blk} {wF : World} {ΦF : Nat -> Prop} {fd : Option (List Nat × List Nat)}
theorem Ya {ro:Option Nat} {n:Nat} {all:Array Oper} {E:Act->World->Prop} {i4:Nat} {o4:Oper} {t:Trn} {post:List Nat} {Γ0:Ctx} {H0:List Blk} {w0:World} {Φ0:Nat->Prop} {ds:List Deferred} {g:Nat} {x:Obj} {k:St σ->Option R} (A:Ask C I cl yh yv) (hF:HR ΓF HF wF) (ho:all[i4]? = some o4) (hpost:∀ i∈post,i<all.size) (hg:w0.heap.size<=g) (hgF:wF.heap.size<=g) (hN:Nxt C I Γ0 Φ0 H0 w0 ds k r E):∀ (mid:List Nat) {Γ:Ctx} {Φ:Nat->Prop} {st:St σ} {a:Act} {w:World},(∀ i∈mid,i<all.size)->Dp all i4 mid=true->Γ.yv=yv->
  Im C cl yh all fd HF o4.dst mid st (λst2=>Lq C o4.dst t st2 λst3=>Gf C cl yh all fd HF false post st3 k)=some r->SI C I Γ Φ st a.tmps w->IG C o4.dst t g x Γ Φ a w->Stp C Γ0 H0 w0 Φ0 Γ st.hp w Φ->Stp C ΓF HF wF ΦF Γ st.hp w Φ->a.defers=ds->J4 (E5 ro) n C.P all (DX ΓF wF fd) (Ay fd) (G0 C all) E (mid++post) a w
 | [],Γ,Φ,st,a,w,hlt,hap,hyv,h,S,hah,hs,hsF,hd=>by
  simp only [Im] at h
  obtain ⟨st',Γ',h',S',hs'⟩:=VB A.hI S h hah
  have hs':=@hs'
  have h1:=hs' hs hg
  have h2:=hs' hsF hgF
  exact Dk A hF post hpost (h1.yv.trans (hs.yv.symm.trans hyv)) (λe=>by cases e) h' S' h2 λst2 a2 w2 Γ2 Φ2 q1 q2 q3 q4=>hN st2 a2 w2 Γ2 Φ2 q1 (h1.trans q2) q3 (q4.trans hd)
 | i::rest,Γ,Φ,st,a,w,hlt,hap,hyv,h,S,hah,hs,hsF,hd=>by
  obtain ⟨o,hi,hd1,hd2,hap'⟩:=AI ho hap
  simp only [Im] at h
  exact Sx (E:=J4 (E5 ro) n C.P all (DX ΓF wF fd) (Ay fd) (G0 C all) E (rest++post)) hi (Dk A hF [i] (λj hj=>hlt j (by simp at hj;simp [hj])) hyv (λe=>by cases e) h S hsF λst' a' w' Γ' Φ' k1 k2 k3 k4 hag=>
   Ya A hF ho hpost hg hgF hN rest (λj hj=>hlt j (by simp [hj])) hap' (k2.yv.trans hyv) k1 (ML k3 o4.dst) (hah.step k2 hag hd2) (hs.trans k2) (hsF.trans k2) (k4.trans hd))
theorem RU {ro:Option Nat} {n:Nat} {all:Array Oper} {E:Act->World->Prop} {i4:Nat} {o4:Oper} {t:Trn} {post:List Nat} (A:Ask C I cl yh yv) (hF:HR ΓF HF wF) (ho:all[i4]? = some o4) (hg:o4.guard=none) (hop:At4 o4.op) (hpost:∀ i∈post,i<all.size):∀ (mid:List Nat) {Γ:Ctx} {Φ:Nat->Prop} {st:St σ} {a:Act} {w:World} {k:St σ->Option R},(∀ i∈mid,i<all.size)->Dp all i4 mid=true->Γ.yv=yv->
  Im C cl yh all fd HF o4.dst mid { st with sl:=V8 o4.dst .bad st.sl } (λst2=>Lq C o4.dst t st2 λst3=>Gf C cl yh all fd HF false post st3 k)=some r->SI C I Γ Φ st a.tmps w->Stp C ΓF HF wF ΦF Γ st.hp w Φ->II C o4 a.eval t->Nxt C I Γ Φ st.hp w a.defers k r E->Qe (E5 ro) n C.P all (DX ΓF wF fd) (Ay fd) (G0 C all) E i4 post mid a w:=by
 have early:∀ (mid:List Nat) {Γ:Ctx} {Φ:Nat->Prop} {st:St σ} {a:Act} {w:World} {k:St σ->Option R},(∀ i∈mid,i<all.size)->Dp all i4 mid=true->Γ.yv=yv->
   Im C cl yh all fd HF o4.dst mid { st with sl:=V8 o4.dst .bad st.sl } (λst2=>Lq C o4.dst t st2 λst3=>Gf C cl yh all fd HF false post st3 k)=some r->SI C I Γ Φ st a.tmps w->Stp C ΓF HF wF ΦF Γ st.hp w Φ->II C o4 a.eval t->Nxt C I Γ Φ st.hp w a.defers k r E->
   ∀ w1,J2 w w1->wpOpIn (E5 ro) n C.P all QF i4 (λa' w'=>J2 w1 w'/\J4 (E5 ro) n C.P all (DX ΓF wF fd) (Ay fd) (G0 C all) E (mid++post) a' w') a w1:=by
  intro mid Γ Φ st a w k hlt hap hyv h S hsF hrow hN w1 hw1
  refine A88 ho hg hop hrow λV x hV=>⟨Mb w1 x,?_⟩
  obtain ⟨S1,hs1⟩:=S.like A.hI hw1
  obtain ⟨S2,hs2⟩:=S1.like A.hI (Mb w1 x)
  refine Ya (a:=a.put o4.dst V) A hF ho hpost hw1.1.2 (Nat.le_trans hsF.size hw1.1.2) hN mid hlt hap hyv h (S2.put (o:=o4) (v:=.bad) (V:=V) (.bad V) (by simp [PV.nms])) ⟨F6 rfl,λe=>Nat.lt_irrefl _ (S1.hr.stlt _ e),λb e=>Nat.lt_irrefl _ (S1.hr.lt b _ e).2.1,λe=>Nat.lt_irrefl _ (A.hI.foot _ _ _ _ S1.inv _ e).1,⟨V,hV⟩,?_⟩ (hs1.trans hs2) (hsF.trans (hs1.trans hs2)) (put_defers _ _ _)
  rintro V' ⟨t,ht,hV'⟩
  have e:V'=V:=by
   rw [ht] at hV'
   simp only [Act.put] at hV'
   have:=(Array.getElem?_eq_some_iff.1 hV').1
   simp at this
   simpa [this] using hV'.symm
  rw [e]
  exact hV
 intro mid
 induction mid with
 | nil=>
  intro Γ Φ st a w k hlt hap hyv h S hsF hrow hN
  exact early [] hlt hap hyv h S hsF hrow hN
 | cons i rest ih=>
  intro Γ Φ st a w k hlt hap hyv h S hsF hrow hN
  refine ⟨?_,λ_=>early (i::rest) hlt hap hyv h S hsF hrow hN⟩
  obtain ⟨o,hi,hd1,hd2,hap'⟩:=AI ho hap
  have S0:=ML S o4.dst
  simp only [Im] at h
  exact Sx (E:=Qe (E5 ro) n C.P all (DX ΓF wF fd) (Ay fd) (G0 C all) E i4 post rest) hi (Dk A hF [i] (λj hj=>hlt j (by simp at hj;simp [hj])) hyv (λe=>by cases e) h S0 hsF λst' a' w' Γ' Φ' k1 k2 k3 k4 hag=>
   ih (λj hj=>hlt j (by simp [hj])) hap' (k2.yv.trans hyv) k1 k3 (hsF.trans k2) (by
    have e:=execOp_congr (ρ:=a'.eval) (ρ':=a.eval) o4 (λcs b e=>by rcases hop with ⟨_,_,_,h⟩ | ⟨_,h⟩<;>rw [h] at e<;>cases e) (OG hag hd1)
    unfold II at hrow ⊢
    rw [e]
    exact hrow) λst2 a2 w2 Γ2 Φ2 q1 q2 q3 q4=>hN st2 a2 w2 Γ2 Φ2 q1 (k2.trans q2) q3 (q4.trans k4))
end
theorem TE {ro:Option Nat} {n id i4:Nat} {ops:Array Oper} {o4:Oper} {Q:Exit->Act->World->Prop} {k:St σ->Option R} (A:Ask C I cl yh yv) (hm:C.P.follows .mixedOrders=true) {fd:Option (List Nat × List Nat)} (hok:TD C fd ops i4=true) (hyv:Γ.yv=yv) (ho:ops[i4]? = some o4)
  (h:(Gf C cl yh ops fd st.hp true (Fg C ops) st λst1=>TY C o4 st1.sl λt=>
    Im C cl yh ops fd st.hp o4.dst (Dq C ops i4) { st1 with sl:=V8 o4.dst .bad st1.sl } λst2=>Lq C o4.dst t st2 λst3=>
     Gf C cl yh ops fd st.hp false (Aq C ops i4) st3 k)=some r) (S:SI C I Γ Φ st a.tmps w)
  (hN:Nxt C I Γ Φ st.hp w a.defers k r (λa' w'=>Q .normal a' w')):(Code.region id ops true).wpIn (E5 ro) n C.P Q a w:=by
 simp only [TD,Bool.and_eq_true] at hok
 obtain ⟨h1,h2,h3,h4,h5,h6,h7⟩:=hok
 rw [List.all_eq_true] at h2 h4
 have hnd:∀ (j:Nat) (o:Oper) c,ops[j]? = some o->o.op≠.defer c:=λj o c ho e=>by
  have:=h2 o (by simpa using Array.mem_of_getElem? ho)
  rw [e] at this
  cases this
 have hk:∀ j,ops.size<=j->G0 C ops j<=1:=λj hj=>by
  simp only [G0,Array.getElem?_eq_none hj]
  exact Nat.le_refl _
 have hlt:∀ j,j∈Fg C ops\/j∈Dq C ops i4\/j∈Aq C ops i4->j<ops.size:=λj hj=>Qx (h4 j (by
  rcases hj with hj | hj | hj<;>simp [hj]))
 have hC:J4 (E5 ro) n C.P ops (DX Γ w fd) (Ay fd) (G0 C ops) (Qe (E5 ro) n C.P ops (DX Γ w fd) (Ay fd) (G0 C ops) (λa w0=>∀ w,J2 w0 w->Q .normal a w) i4 (Aq C ops i4) (Dq C ops i4)) (Fg C ops) a w:=
  Dk A S.hr _ (λi hi=>hlt i (.inl hi)) hyv (λ_ _ h=>h) h S (Stp.refl S.hr) λst1 a1 w1 Γ1 Φ1 k1 k2 k3 k4=>by
   obtain ⟨hg,hop,v,hv,hrow⟩:=TZ k3 k1
   exact RU A S.hr ho hg hop (λi hi=>hlt i (.inr (.inr hi))) _ (λi hi=>hlt i (.inr (.inl hi))) h5 (k2.yv.trans hyv) hv k3 k2 hrow λst2 a2 w2 Γ2 Φ2 q1 q2 q3 q4 w3 hw3=>by
    obtain ⟨S3,hs3⟩:=q3.like A.hI hw3
    exact hN st2 a2 w3 Γ2 Φ2 q1 (k2.trans (q2.trans hs3)) S3 (q4.trans k4)
 refine wpIn_region_any hm ?_
 have hlen:=Nat.eq_of_beq_eq_true h3
 have e:ops.size=(Aq C ops i4).length+1+(Dq C ops i4).length+(Fg C ops).length:=by
  rw [<-hlen]
  simp only [List.length_append,List.length_cons]
  omega
 rw [e]
 refine Ia (wr:=λj=>Nat.ble 3 (G0 C ops j)) (Qn:=λa w=>Q .normal a w) (λ_ _ h=>h) _ _ _ _ (Kl (fin:=Kk .any ops (Ay fd) (G0 C ops) i4 (Aq C ops i4) (Dq C ops i4)) h1 hnd hk
  (λlisted a w0 hf hd hM w hw=>Al7 h1 hnd hk _ listed a w0 hf hd hM w hw) (Fg C ops) (Array.replicate ((Aq C ops i4).length+1+(Dq C ops i4).length+(Fg C ops).length) false) a w (by rw [<-e];exact h7) (λj o ho hj=>?_) hC _ ⟨⟨λ_ _=>rfl,Nat.le_refl _⟩,rfl,rfl,rfl⟩)
 simp only [Array.getD_eq_getD_getElem?,Array.getElem?_replicate] at hj
 split at hj<;>cases hj
theorem A80 {ro:Option Nat} {n id:Nat} {ops:Array Oper} {Q:Exit->Act->World->Prop} {k:St σ->Option R} (A:Ask C I cl yh yv) (hm:C.P.follows .mixedOrders=true) (hok:TC C id ops=true) (hyv:Γ.yv=yv) (h:TB C cl yh id ops true st k=some r) (S:SI C I Γ Φ st a.tmps w)
  (hN:Nxt C I Γ Φ st.hp w a.defers k r (λa' w'=>Q .normal a' w')):(Code.region id ops true).wpIn (E5 ro) n C.P Q a w:=by
 unfold TB at h
 unfold TC at hok
 split at h
 ·rename_i hr
  rw [hr] at hok
  exact Ad9 A hm hok hyv h S hN
 ·rename_i i hr
  rw [hr] at hok
  split at h
  ·rename_i o _ ho
   refine TE A hm ?_ hyv ho h S hN
   rw [Bool.or_eq_true] at hok
   rcases hok with hok | hok
   ·have:=(Array.getElem?_eq_some_iff.1 ho).1
    have:=Nat.le_of_ble_eq_true hok
    omega
   ·exact hok
  ·cases h
end
def Ctx.cut (Γ:Ctx) (L:Nat):Ctx:={ Γ with St:=λg=>Γ.St g\/∃ b,L<=b/\Γ.nm b=some g,nm:=λb=>if b<L then Γ.nm b else none }
def mkD (D:Nat):Deferred:={ target:=.collected D,args:=#[] }
section
variable {σ R : Type} {r : R} {C : Cfg} {I : σ -> (Nat -> Prop) -> (Nat -> Prop) -> World -> Prop} {Γ Γ' : Ctx} {Φ Φ' : Nat -> Prop} {st : St σ} {a : Act} {w w' : World} {cl : D5} {yh : Yh σ} {yv : Value} {o : Oper} {H H' : List Blk} {tmps : Array Value}
def Off (Γ:Ctx) (Φ:Nat->Prop) (w:World) (g:Nat):Prop:=g<w.heap.size/\¬ Γ.St g/\(∀ b,Γ.nm b≠some g)/\¬ Φ g
theorem Off.step {g:Nat} (h:Off Γ Φ w g) (s:Stp C Γ H w Φ Γ' H' w' Φ'):Off Γ' Φ' w' g/\w'.heap[g]? = w.heap[g]?:=by
 obtain ⟨h1,h2,h3,h4⟩:=h
 refine ⟨⟨Nat.lt_of_lt_of_le h1 s.size,λq=>?_,λb q=>?_,λq=>?_⟩,s.frame g h1 h3 h4⟩
 ·rcases s.stnew g q with q | q
  ·exact h2 q
  ·omega
 ·rcases s.own b g q with ⟨_,q⟩ | q
  ·exact h3 b q
  ·omega
 ·rcases s.foot g q with q | q
  ·exact h4 q
  ·omega
def Mk (n0:Nat) (Γ:Ctx) (Φ:Nat->Prop) (w:World) (ds:List Deferred):Prop:=n0<=w.heap.size/\∃ Ds:List Nat,ds=Ds.map mkD/\Ds.Nodup/\∀ D∈Ds,n0<=D/\Off Γ Φ w D/\w.heap[D]? = some (.deferred (some []))
theorem Mk.nil {n0:Nat} (h:n0<=w.heap.size):Mk n0 Γ Φ w []:=⟨h,[],rfl,List.nodup_nil,by simp⟩
theorem Mk.step {n0:Nat} {ds:List Deferred} (h:Mk n0 Γ Φ w ds) (s:Stp C Γ H w Φ Γ' H' w' Φ'):Mk n0 Γ' Φ' w' ds:=by
 obtain ⟨h0,Ds,h1,h2,h3⟩:=h
 refine ⟨Nat.le_trans h0 s.size,Ds,h1,h2,λD hD=>?_⟩
 obtain ⟨k1,k2,k3⟩:=h3 D hD
 obtain ⟨q1,q2⟩:=k2.step s
 exact ⟨k1,q1,q2.trans k3⟩
structure Nh (Γ:Ctx) (Φ:Nat->Prop) (w w':World):Prop where
 same:∀ g,Γ.St g\/(∃ b,Γ.nm b=some g)\/Φ g->w'.heap[g]? = w.heap[g]?
 size:w.heap.size<=w'.heap.size
 os:w'.os=w.os
 tape:w'.tape=w.tape
 output:w'.output=w.output
theorem Nh.mono (h:Nh Γ Φ w w'):T7 Γ (A2 H) w Γ (A2 H) w' (λ_=>True):=
 ⟨λg hg=>h.same g (.inl hg),λ_ h=>h,λ_ _=>rfl,λ_ _=>rfl,λb g _ hg=>D1 (h.same g (.inr (.inl ⟨b,hg⟩))),rfl⟩
theorem SI.offW (hI:HI I) (S:SI C I Γ Φ st tmps w) (h:Nh Γ Φ w w'):SI C I Γ Φ st tmps w':=by
 have hf:=hI.foot _ _ _ _ S.inv
 refine ⟨⟨S.hr.inj,λb g hb=>?_,λg hg=>Nat.lt_of_lt_of_le (S.hr.stlt g hg) h.size,S.hr.nms,λb hb=>(S.hr.blk b hb).mono h.mono rfl (λg hg=>h.same g (.inr (.inl ⟨b,hg⟩))) (λ_ _=>trivial)⟩,
  S.sr.mono h.mono (λc hc=>⟨trivial,S.sr.nms c hc⟩),S.g.mono (λg hg=>h.same g (.inl hg)) (λ_ h=>h),
  hI.mono _ _ _ _ _ _ S.inv (λ_ h=>h) (λg hg hp=>(hf g hp).2 hg) (λg hg=>Nat.lt_of_lt_of_le (S.hr.stlt g hg) h.size) (λg hg=>h.same g (hg.elim .inl (λq=>.inr (.inr q)))) h.size h.os h.tape h.output,S.dis⟩
 obtain ⟨q1,q2,q3⟩:=S.hr.lt b g hb
 exact ⟨q1,Nat.lt_of_lt_of_le q2 h.size,q3⟩
structure Pg (C:Cfg) (Γ:Ctx) (H:List Blk) (w:World) (Φ:Nat->Prop) (Γ':Ctx) (H':List Blk) (w':World) (Φ':Nat->Prop):Prop where
 os:w'.os=w.os
 tape:w'.tape=w.tape
 output:w'.output=w.output
 size:w.heap.size<=w'.heap.size
 sub:∀ g,Γ.St g->Γ'.St g
 own:∀ b g,Γ'.nm b=some g->(b<H.length/\Γ.nm b=some g)\/w.heap.size<=g
 foot:∀ g,Φ' g->Φ g\/w.heap.size<=g
 yv:Γ'.yv = Γ.yv
 len:H.length<=H'.length
 keep:∀ b,b<H.length->Fc C (A2 H b)->Γ'.nm b = Γ.nm b/\A2 H' b=A2 H b/\∀ g,Γ.nm b=some g->w'.shape? g=w.shape? g
theorem Stp.pg (h:Stp C Γ H w Φ Γ' H' w' Φ'):Pg C Γ H w Φ Γ' H' w' Φ':=⟨h.os,h.tape,h.output,h.size,h.sub,h.own,h.foot,h.yv,h.len,h.keep⟩
theorem Pg.trans {Γ'':Ctx} {H'':List Blk} {w'':World} {Φ'':Nat->Prop} (h:Pg C Γ H w Φ Γ' H' w' Φ') (k:Pg C Γ' H' w' Φ' Γ'' H'' w'' Φ''):Pg C Γ H w Φ Γ'' H'' w'' Φ'':=by
 have h1:=h.size
 refine ⟨k.os.trans h.os,k.tape.trans h.tape,k.output.trans h.output,Nat.le_trans h.size k.size,λg hg=>k.sub g (h.sub g hg),λb g hb=>?_,λg hg=>?_,k.yv.trans h.yv,Nat.le_trans h.len k.len,λb hb hf=>?_⟩
 ·rcases k.own b g hb with ⟨_,q⟩ | q
  ·exact h.own b g q
  ·exact .inr (by omega)
 ·rcases k.foot g hg with q | q
  ·exact h.foot g q
  ·exact .inr (by omega)
 ·obtain ⟨k1,k2,k3⟩:=h.keep b hb hf
  have h2:=h.len
  obtain ⟨m1,m2,m3⟩:=k.keep b (by omega) (by rw [k2];exact hf)
  exact ⟨m1.trans k1,m2.trans k2,λg hg=>(m3 g (k1.trans hg)).trans (k3 g hg)⟩
theorem Pg.off (hH:HR Γ H w) (h:Nh Γ Φ w w'):Pg C Γ H w Φ Γ H w' Φ:=
 ⟨h.os,h.tape,h.output,h.size,λ_ h=>h,λb g hb=>.inl ⟨(hH.lt b g hb).1,hb⟩,λ_ h=>.inl h,rfl,Nat.le_refl _,λb hb _=>⟨rfl,rfl,λg hg=>D1 (h.same g (.inr (.inl ⟨b,hg⟩)))⟩⟩
theorem Pg.wideSt {St':Nat->Prop} (hH:HR Γ H w) (hs:∀ g,Γ.St g->St' g):Pg C Γ H w Φ { Γ with St:=St' } H w Φ:=
 ⟨rfl,rfl,rfl,Nat.le_refl _,hs,λb g hb=>.inl ⟨(hH.lt b g hb).1,hb⟩,λ_ h=>.inl h,rfl,Nat.le_refl _,λ_ _ _=>⟨rfl,rfl,λ_ _=>rfl⟩⟩
theorem Nh.put {l:Nat} {ob:Obj} (h:Off Γ Φ w l):Nh Γ Φ w (w.putObj l ob):=by
 refine ⟨λg hg=>World.putObj_heap_other ?_,by simp,rfl,rfl,rfl⟩
 rintro rfl
 rcases hg with q | ⟨b,q⟩ | q
 ·exact h.2.1 q
 ·exact h.2.2.1 b q
 ·exact h.2.2.2 q
theorem Off.put {g l:Nat} {ob:Obj} (h:Off Γ Φ w g):Off Γ Φ (w.putObj l ob) g:=⟨by simpa using h.1,h.2⟩
theorem Mk.put {n0 l:Nat} {ob:Obj} {rr:Loop} {ds:List Deferred} (h:Mk n0 Γ Φ w ds) (hl:w.heap[l]? = some (.loop rr)):Mk n0 Γ Φ (w.putObj l ob) ds:=by
 obtain ⟨h0,Ds,h1,h2,h3⟩:=h
 refine ⟨by simpa using h0,Ds,h1,h2,λD hD=>?_⟩
 obtain ⟨k1,k2,k3⟩:=h3 D hD
 refine ⟨k1,k2.put,(World.putObj_heap_other ?_).trans k3⟩
 rintro rfl
 rw [k3] at hl
 cases hl
def Ay5 (C:Cfg) (I:σ->(Nat->Prop)->(Nat->Prop)->World->Prop) (n0:Nat) (Γ:Ctx) (Φ:Nat->Prop) (H:List Blk) (w:World) (k:Out->St σ->Option R) (r:R) (Q:Exit->Act->World->Prop):Prop:=
 ∀ o st' a' w' Γ' Φ',k o st'=some r->Stp C Γ H w Φ Γ' st'.hp w' Φ'->SI C I Γ' Φ' st' a'.tmps w'->Mk n0 Γ' Φ' w' a'.defers->Q o.exit' a' w'
def WP (C:Cfg) (I:σ->(Nat->Prop)->(Nat->Prop)->World->Prop) (cl:D5) (yh:Yh σ) (yv:Value) (c:Code):Prop:=
 ∀ {R:Type} {r:R} {ro:Option Nat} {n n0:Nat} {Γ:Ctx} {Φ:Nat->Prop} {st:St σ} {a:Act} {w:World} {k:Out->St σ->Option R} {Q:Exit->Act->World->Prop},
  Γ.yv=yv->B2 C cl yh c st k=some r->SI C I Γ Φ st a.tmps w->Mk n0 Γ Φ w a.defers->Ay5 C I n0 Γ Φ st.hp w k r Q->c.wpIn (E5 ro) n C.P Q a w
def Hr (fn:FuncId) (tmps:Array Value) (ps:Array Tmp) (aq body:Code) (D:Nat) (s:LoopState) (p:Option Code):Loop:={ state:=s,pending:=p,fn:=fn,tmps:=tmps,params:=ps,assign:=aq,body:=body,defers:=D }
def jmp:Out->Code
 | .normal=>.skip
 | .exit id=>.exit id
 | .ret=>.ret
def A97:Option Out->LoopState
 | none=>.ready
 | some _=>.done
structure RIb (C:Cfg) (I:σ->(Nat->Prop)->(Nat->Prop)->World->Prop) (Γ0:Ctx) (H0:List Blk) (w0:World) (Φ0:Nat->Prop) (sl0:List PV) (tmps:Array Value) (l D:Nat) (rc:LoopState->Option Code->Loop) (x:List Blk × Option Out × σ) (St Φ:Nat->Prop) (w:World) (Γb:Ctx) (Φb:Nat->Prop):Prop where
 si:SI C I Γb Φb { sl:=sl0,hp:=x.1,s:=x.2.2 } tmps w
 pg:Pg C Γ0 H0 w0 Φ0 Γb x.1 w Φb
 st:∀ g,Γb.St g->St g
 ph:∀ g,Φ g↔Φb g\/(∃ b,Γb.nm b=some g)\/g=l\/g=D
 ft:∀ g,Φ g->g<w.heap.size/\¬ St g
 ol:Off Γb Φb w l
 od:Off Γb Φb w D
 hl:w.heap[l]? = some (.loop (rc (A97 x.2.1) (x.2.1.map jmp)))
 hd:w.heap[D]? = some (.deferred (some []))
def RI (C:Cfg) (I:σ->(Nat->Prop)->(Nat->Prop)->World->Prop) (Γ0:Ctx) (H0:List Blk) (w0:World) (Φ0:Nat->Prop) (sl0:List PV) (tmps:Array Value) (l D:Nat) (rc:LoopState->Option Code->Loop):(List Blk × Option Out × σ)->(Nat->Prop)->(Nat->Prop)->World->Prop:=
 λx St Φ w=>∃ Γb Φb,RIb C I Γ0 H0 w0 Φ0 sl0 tmps l D rc x St Φ w Γb Φb
theorem Bm5 {Γ0:Ctx} {H0:List Blk} {w0:World} {Φ0:Nat->Prop} {sl0:List PV} {l D:Nat} {rc:LoopState->Option Code->Loop} (hI:HI I):HI (RI C I Γ0 H0 w0 Φ0 sl0 tmps l D rc):=by
 refine ⟨λx St Φ w ⟨Γb,Φb,r⟩=>r.ft,λx St Φ w St' w' ⟨Γb,Φb,r⟩ hs hd hlt hh hz ho ht hu=>?_⟩
 have inΦ:∀ {g},Φb g\/(∃ b,Γb.nm b=some g)\/g=l\/g=D->Φ g:=fun {g} h=>(r.ph g).2 h
 have O:Nh Γb Φb w w':=⟨λg hg=>by
  rcases hg with q | q | q
  ·exact hh g (.inl (r.st g q))
  ·exact hh g (.inr (inΦ (.inr (.inl q))))
  ·exact hh g (.inr (inΦ (.inl q))),hz,ho,ht,hu⟩
 have up:∀ {g},Off Γb Φb w g->Off Γb Φb w' g:=λh=>⟨Nat.lt_of_lt_of_le h.1 hz,h.2⟩
 exact ⟨Γb,Φb,r.si.offW hI O,r.pg.trans (Pg.off r.si.hr O),λg hg=>hs g (r.st g hg),r.ph,λg hg=>⟨Nat.lt_of_lt_of_le (r.ft g hg).1 hz,λq=>hd g q hg⟩,up r.ol,up r.od,
  (hh l (.inr (inΦ (.inr (.inr (.inl rfl)))))).trans r.hl,(hh D (.inr (inΦ (.inr (.inr (.inr rfl)))))).trans r.hd⟩
end
section
variable {σ R : Type} {r : R} {C : Cfg} {I : σ -> (Nat -> Prop) -> (Nat -> Prop) -> World -> Prop} {Γ Γ' : Ctx} {Φ Φ' : Nat -> Prop} {st : St σ} {a : Act} {w w' : World} {cl : D5} {yh : Yh σ} {yv : Value} {H H' : List Blk} {tmps : Array Value}
theorem AL (x:Blk):(Fs x).nms=[]:=by
 cases x with
 | box cells=>
  simp only [Fs,Blk.nms]
  rw [List.eq_nil_iff_forall_not_mem]
  intro c hc
  obtain ⟨j,hj,hc⟩:=B6.1 hc
  simp [PV.nms] at hc
 | _=>rfl
theorem AM (x:Blk):(Fs x).shp=x.shp:=by cases x<;>rfl
theorem Al1 {sh sh':Nat->Option Shp} {b b':Nat} {x:Blk} (h:BR Γ sh w b x) (hnm:Γ'.nm b' = Γ.nm b) (hst:∀ g,Γ.St g->w'.heap[g]? = w.heap[g]?) (hsub:∀ g,Γ.St g->Γ'.St g) (hheap:∀ g,Γ.nm b=some g->w'.heap[g]? = w.heap[g]?):BR Γ' sh' w' b' (Fs x):=by
 cases x with
 | arr v e sz els=>
  rcases h with h | ⟨hn,g,cur,h1,h2,h3,h4,h5⟩
  ·exact .inl h
  ·refine .inr ⟨hn,g,cur,by rw [hnm];exact h1,by rw [hheap g h1];exact h2,h3,h4,λi h j h'=>?_⟩
   obtain ⟨V,e1,e2⟩:=h5 i h j h'
   exact ⟨V,e1,e2.mono hst hsub⟩
 | box cells=>
  obtain ⟨g,cur,e,h1,h2,h3,h4⟩:=h
  refine ⟨g,cur,e,by rw [hnm];exact h1,by rw [hheap g h1];exact h2,by simpa using h3,λj h=>?_⟩
  obtain ⟨V,e1,_⟩:=h4 j (by simpa using h)
  exact ⟨V,e1,by rw [List.getElem_map];exact .bad V⟩
 | iter s p=>
  obtain ⟨g,s',h1,h2,h3⟩:=h
  exact ⟨g,s',by rw [hnm];exact h1,by rw [hheap g h1];exact h2,h3⟩
 | dead=>trivial
end
section
variable {σ R : Type} {r : R} {C : Cfg} {I : σ -> (Nat -> Prop) -> (Nat -> Prop) -> World -> Prop} {Γ : Ctx} {Φ : Nat -> Prop} {st : St σ} {a : Act} {w : World} {cl : D5} {yh : Yh σ} {yv : Value} {o : Oper} {H : List Blk}
theorem JI (hH:HR Γ H w) {L:Nat} (hL:L<=H.length):T7 Γ (A2 H) w (Γ.cut L) (A2 (H.take L)) w (· < L):=
 ⟨λ_ _=>rfl,λ_ h=>.inl h,λb hb=>by simp only [Ctx.cut];rw [if_pos hb],λb hb=>by simp only [A2,List.getElem?_take];rw [if_pos hb],λ_ _ _ _=>rfl,rfl⟩
theorem Am7 (hH:HR Γ H w) {L:Nat} (hL:L<=H.length) (hlow:Aa7 L (H.take L)=true):HR (Γ.cut L) (H.take L) w:=by
 have hlow':=BI hlow
 have hlen:(H.take L).length=L:=by rw [List.length_take];omega
 have key:∀ b g,(Γ.cut L).nm b=some g->b<L/\Γ.nm b=some g:=λb g h=>by
  simp only [Ctx.cut] at h
  grind
 refine ⟨λb b' g h1 h2=>hH.inj b b' g (key b g h1).2 (key b' g h2).2,λb g h=>?_,λg hg=>?_,λb hb c hc=>?_,λb hb=>?_⟩
 ·obtain ⟨h1,h2⟩:=key b g h
  have:=hH.lt b g h2
  refine ⟨by omega,this.2.1,?_⟩
  rintro (h3 | ⟨b',h3,h4⟩)
  ·grind
  ·have:=hH.inj b b' g h2 h4;omega
 ·rcases hg with hg | ⟨b,_,hg⟩
  ·exact hH.stlt g hg
  ·exact (hH.lt b g hg).2.1
 ·grind
 ·have hbL:b<L:=by omega
  have e:(H.take L)[b]=H[b]'(by omega):=List.getElem_take
  rw [e]
  have M:=JI hH hL
  exact (hH.blk b (by omega)).mono M (M.nm b hbL) (λ_ _=>rfl) (λc hc=>hlow' _ (List.getElem_mem hb) c (by rw [e];exact hc))
theorem YB (hH:HR Γ H w) {L b:Nat} (hb:¬ b<L) {v:PV} {V:Value} (hv:v = .fl b\/∃ i n,v = .vw b i n) (h:VP Γ (A2 H) w v V):VP (Γ.cut L) (A2 (H.take L)) w (v.snap H) V/\(v.snap H).nms=[]:=by
 rcases hv with rfl | ⟨i,n,rfl⟩
 ·cases h with
  | flv _ e sz h=>
   obtain ⟨x,hx,hs⟩:∃ x,H[b]? = some x/\x.shp = .arr true e sz 0:=by simpa [A2] using h
   cases x<;>simp [Blk.shp] at hs
   rename_i v' e' sz' els
   obtain ⟨rfl,rfl,rfl,h4⟩:=hs
   subst h4
   simp only [PV.snap,hx]
   exact ⟨.s _ _ (.nil _ _),rfl⟩
  | fl _ g v e sz n cap h hv hg hcap hm hs=>
   obtain ⟨x,hx,hs'⟩:∃ x,H[b]? = some x/\x.shp = .arr v e sz n:=by simpa [A2] using h
   cases x<;>simp [Blk.shp] at hs'
   rename_i v' e' sz' els
   obtain ⟨rfl,rfl,rfl,rfl⟩:=hs'
   have hne:¬ (v'=true/\els=[]):=by rintro ⟨q1,q2⟩;exact hv q1 (by rw [q2];rfl)
   have hz:(v'&&els.isEmpty)=false:=by cases v'<;>simp_all
   simp only [PV.snap,hx,hz]
   have:=HJ (i:=0) (n:=els.length) (a:=⟨g,0,none⟩) (cap:=cap) hH hx hne hg (by omega) (λ_=>by simp) hcap hm (St':=(Γ.cut L).St) (λ_ h=>Or.inl h) (.inr ⟨b,by omega,hg⟩)
   simp only [List.drop_zero,List.take_length] at this
   exact ⟨.s _ _ this,rfl⟩
 ·cases h with
  | vwv _ e sz _ h=>
   obtain ⟨x,hx,hs⟩:∃ x,H[b]? = some x/\x.shp = .arr true e sz 0:=by simpa [A2] using h
   cases x<;>simp [Blk.shp] at hs
   rename_i v' e' sz' els
   obtain ⟨rfl,rfl,rfl,h4⟩:=hs
   subst h4
   simp only [PV.snap,hx,List.drop_nil,List.take_nil]
   exact ⟨.s _ _ (.nil _ _),rfl⟩
  | vw _ _ _ g a cap v e sz m h hv hg ha hi hcap hm=>
   obtain ⟨x,hx,hs'⟩:∃ x,H[b]? = some x/\x.shp = .arr v e sz m:=by simpa [A2] using h
   cases x<;>simp [Blk.shp] at hs'
   rename_i v' e' sz' els
   obtain ⟨rfl,rfl,rfl,rfl⟩:=hs'
   have hne:¬ (v'=true/\els=[]):=by rintro ⟨q1,q2⟩;exact hv q1 (by rw [q2];rfl)
   have hz:(v'&&els.isEmpty)=false:=by cases v'<;>simp_all
   simp only [PV.snap,hx,hz]
   exact ⟨.s _ _ (HJ hH hx hne hg hi ha hcap hm (λ_ h=>Or.inl h) (.inr ⟨b,by omega,hg⟩)),rfl⟩
theorem GJ (hH:HR Γ H w) {L:Nat} (hL:L<=H.length) {v:PV} {V:Value} (h:VP Γ (A2 H) w v V):VP (Γ.cut L) (A2 (H.take L)) w (v.low H L) V/\∀ c∈(v.low H L).nms,c<L:=by
 have M:=JI hH hL
 have keep:(∀ c∈v.nms,c<L)->VP (Γ.cut L) (A2 (H.take L)) w v V:=λhn=>h.mono M hn
 unfold PV.low
 split
 ·rename_i b
  split
  ·rename_i hb;exact ⟨keep (by simpa [PV.nms] using hb),by simpa [PV.nms] using hb⟩
  ·rename_i hb
   obtain ⟨q1,q2⟩:=YB hH hb (.inl rfl) h
   grind
 ·rename_i b i n
  split
  ·rename_i hb;exact ⟨keep (by simpa [PV.nms] using hb),by simpa [PV.nms] using hb⟩
  ·rename_i hb
   obtain ⟨q1,q2⟩:=YB hH hb (.inr ⟨i,n,rfl⟩) h
   grind
 ·exact ⟨keep (by simp [PV.nms]),by simp [PV.nms]⟩
 ·exact ⟨keep (by simp [PV.nms]),by simp [PV.nms]⟩
 ·exact ⟨keep (by simp [PV.nms]),by simp [PV.nms]⟩
 ·split
  ·rename_i hb;exact ⟨keep (by simpa [PV.nms] using hb),by simpa [PV.nms] using hb⟩
  ·exact ⟨.bad _,by simp [PV.nms]⟩
 ·split
  ·rename_i hb;exact ⟨keep (by simpa [PV.nms] using hb),by simpa [PV.nms] using hb⟩
  ·exact ⟨.bad _,by simp [PV.nms]⟩
 ·split
  ·grind
  ·exact ⟨.bad _,by simp [PV.nms]⟩
def Sub (Γ Γ':Ctx):Prop:=(∀ g,Γ'.St g->Γ.St g\/∃ b,Γ.nm b=some g)/\∀ b g,Γ'.nm b=some g->Γ.nm b=some g
theorem Mk.sub {n0:Nat} {Γ':Ctx} {ds:List Deferred} (h:Mk n0 Γ Φ w ds) (s:Sub Γ Γ'):Mk n0 Γ' Φ w ds:=by
 obtain ⟨h0,Ds,h1,h2,h3⟩:=h
 refine ⟨h0,Ds,h1,h2,λD hD=>?_⟩
 obtain ⟨k1,k2,k3⟩:=h3 D hD
 refine ⟨k1,⟨k2.1,λq=>?_,λb q=>k2.2.2.1 b (s.2 b D q),k2.2.2.2⟩,k3⟩
 rcases s.1 D q with q | ⟨b,q⟩
 ·exact k2.2.1 q
 ·exact k2.2.2.1 b q
theorem Py {H0:List Blk} {Γ0:Ctx} {w0:World} {Φ0:Nat->Prop} {L:Nat} (hI:HI I) (S:SI C I Γ Φ st a.tmps w) (h:Stp C Γ0 H0 w0 Φ0 Γ st.hp w Φ) (hL0:H0.length<=L) (hL:L<=st.hp.length):∃ Γ',SI C I Γ' Φ (R7 L st) a.tmps w/\Stp C Γ0 H0 w0 Φ0 Γ' (R7 L st).hp w Φ/\Sub Γ Γ':=by
 unfold R7
 split
 ·rename_i hlow
  have hlen:(st.hp.take L).length=L:=by rw [List.length_take];omega
  have hr:=Am7 S.hr hL hlow
  have hnm:∀ b g,(Γ.cut L).nm b=some g->Γ.nm b=some g:=λb g h=>by
   simp only [Ctx.cut] at h
   all_goals grind
  have hnewSt:∀ g,(Γ.cut L).St g->Γ.St g\/(w0.heap.size<=g/\¬ Φ g):=λg hg=>by
   rcases hg with hg | ⟨b,hb,hg⟩
   ·grind
   ·refine .inr ⟨?_,S.dis b g hg⟩
    rcases h.own b g hg with ⟨q,_⟩ | q
    all_goals omega
  have hfoot:=hI.foot _ _ _ _ S.inv
  refine ⟨Γ.cut L,⟨hr,⟨by simpa using S.sr.size,λc hc=>?_,λi hi=>?_⟩,S.g.mono (λ_ _=>rfl) (λ_ h=>Or.inl h),?_,λb g hg=>S.dis b g (hnm b g hg)⟩,
   ⟨h.os,h.tape,h.output,h.size,λg hg=>Or.inl (h.sub g hg),λg hg=>?_,λb g hg=>h.own b g (hnm b g hg),h.foot,h.frame,h.yv,by rw [hlen];exact hL0,λb hb hf=>?_⟩,λg hg=>hg.elim .inl (λ⟨b,_,q⟩=>.inr ⟨b,q⟩),hnm⟩
  ·obtain ⟨j,hj,hc⟩:=B6.1 hc
   have hj':j<st.sl.length:=by simpa using hj
   obtain ⟨U,e,k⟩:=S.sr.slot j hj'
   rw [List.getElem_map] at hc
   have:=(GJ S.hr hL k).2 c hc
   grind
  ·have hi':i<st.sl.length:=by simpa using hi
   obtain ⟨U,e,k⟩:=S.sr.slot i hi'
   exact ⟨U,e,by rw [List.getElem_map];exact (GJ S.hr hL k).1⟩
  ·refine hI.mono _ _ _ _ _ _ S.inv (λ_ h=>Or.inl h) (λg hg hp=>?_) (λg hg=>hr.stlt g hg) (λ_ _=>rfl) (Nat.le_refl _) rfl rfl rfl
   all_goals grind
  ·rcases hnewSt g hg with q | q
   ·exact h.stnew g q
   omega
  ·obtain ⟨k1,k2,k3⟩:=h.keep b hb hf
   have hbL:b<L:=by omega
   refine ⟨by simp only [Ctx.cut];rw [if_pos hbL];exact k1,?_,k3⟩
   rw [<-k2]
   simp only [A2,List.getElem?_take]
   grind
 ·exact ⟨Γ,S,h,λ_ h=>.inl h,λ_ _ h=>h⟩
theorem NA {H0:List Blk} {Γ0:Ctx} {w0:World} {Φ0:Nat->Prop} (hI:HI I) (S:SI C I Γ Φ st a.tmps w) (h:Stp C Γ0 H0 w0 Φ0 Γ st.hp w Φ):∃ Γ',SI C I Γ' Φ (R7 H0.length st) a.tmps w/\Stp C Γ0 H0 w0 Φ0 Γ' (R7 H0.length st).hp w Φ/\Sub Γ Γ':=
 Py hI S h (Nat.le_refl _) h.len
theorem Oo:∀ (g:List Nat) (l:List PV),(Cb g l).length=l.length/\∀ i (h:i<(Cb g l).length) (h':i<l.length),(Cb g l)[i]=l[i]\/(Cb g l)[i] = .bad
 | g,[]=>by
  have e:Cb g []=[]:=by unfold Cb;rfl
  grind
 | [],v::l=>by
  obtain ⟨h1,h2⟩:=Oo [] l
  refine ⟨by simp [Cb,h1],λi h h'=>?_⟩
  cases i with
  | zero=>exact .inr rfl
  | succ i=>
   have:=h2 i (by simpa [Cb] using h) (by simpa using h')
   simpa [Cb] using this
 | 0::g,v::l=>by
  obtain ⟨h1,h2⟩:=Oo g l
  refine ⟨by simp [Cb,h1],λi h h'=>?_⟩
  cases i with
  | zero=>exact .inl rfl
  | succ i=>
   have:=h2 i (by simpa [Cb] using h) (by simpa using h')
   simpa [Cb] using this
 | (n+1)::g,v::l=>by
  obtain ⟨h1,h2⟩:=Oo (n::g) l
  refine ⟨by simp [Cb,h1],λi h h'=>?_⟩
  cases i with
  | zero=>exact .inr rfl
  | succ i=>
   have:=h2 i (by simpa [Cb] using h) (by simpa using h')
   simpa [Cb] using this
theorem XO {sl:List PV} {tmps:Array Value} (g:List Nat) (h:SR Γ H w sl tmps):SR Γ H w (Cb g sl) tmps:=by
 obtain ⟨h1,h2⟩:=Oo g sl
 refine ⟨by rw [h1];exact h.size,λc hc=>?_,λi hi=>?_⟩
 ·obtain ⟨j,hj,hc⟩:=B6.1 hc
  have hj':j<sl.length:=by rw [<-h1];exact hj
  rcases h2 j hj hj' with e | e
  ·rw [e] at hc;exact h.nms c (B6.2 ⟨j,hj',hc⟩)
  ·rw [e] at hc;simp [PV.nms] at hc
 ·have hi':i<sl.length:=by rw [<-h1];exact hi
  obtain ⟨V,e1,e2⟩:=h.slot i hi'
  refine ⟨V,e1,?_⟩
  rcases h2 i hi hi' with e | e
  ·grind
  ·rw [e];exact .bad V
theorem Co (ds:Option (List Nat)) (st:St σ):(Hf ds st).hp=st.hp:=by cases ds<;>rfl
theorem Cn (S:SI C I Γ Φ st a.tmps w) (ds:Option (List Nat)):SI C I Γ Φ (Hf ds st) a.tmps w:=by
 cases ds with
 | none=>exact S
 | some g=>exact ⟨S.hr,XO g S.sr,S.g,S.inv,S.dis⟩
theorem Ux:∀ (l:List Nat) (m:Nat),m<=UY l m
 | [],m=>Nat.le_refl _
 | b::r,m=>by
  simp only [UY]
  cases h:Nat.ble m b with
  | true=>exact Nat.le_trans (Nat.le_succ_of_le (Nat.le_of_ble_eq_true h)) (Ux r (b+1))
  | false=>exact Ux r m
theorem YG:∀ (l:List Blk) (m:Nat),m<=Ag4 l m
 | [],m=>Nat.le_refl _
 | b::r,m=>Nat.le_trans (Ux _ _) (YG r _)
theorem Ll {H0:List Blk} {Γ0:Ctx} {w0:World} {Φ0:Nat->Prop} (hI:HI I) (S:SI C I Γ Φ st a.tmps w) (h:Stp C Γ0 H0 w0 Φ0 Γ st.hp w Φ) (ds:Option (List Nat)) {L:Nat} (hL:H0.length<=L):∃ Γ',SI C I Γ' Φ (Oe ds L st) a.tmps w/\Stp C Γ0 H0 w0 Φ0 Γ' (Oe ds L st).hp w Φ:=by
 cases ds with
 | none=>exact ⟨Γ,S,h⟩
 | some g=>
  have S1:SI C I Γ Φ ({ sl:=Cb g st.sl,hp:=st.hp,s:=st.s }:St σ) a.tmps w:=⟨S.hr,XO g S.sr,S.g,S.inv,S.dis⟩
  simp only [Oe,Bo8,Au9]
  cases hb:Nat.ble (Ag4 st.hp (UY (B8 (Cb g st.sl)) L)+1) st.hp.length with
  | false=>exact ⟨Γ,S1,h⟩
  | true=>
   have:=Nat.le_of_ble_eq_true hb
   obtain ⟨Γ',k1,k2,_⟩:=Py (L:=Ag4 st.hp (UY (B8 (Cb g st.sl)) L)) hI S1 h (Nat.le_trans hL (Nat.le_trans (Ux _ _) (YG _ _))) (by show Ag4 st.hp _<=st.hp.length;omega)
   grind
theorem Av0 {tmps:Array Value} (hI:HI I) (S:SI C I Γ Φ st tmps w) {L:Nat} (hL:L<=st.hp.length):∃ Γ',SI C I Γ' Φ (R7 L st) tmps w/\(∀ g,Γ.St g->Γ'.St g)/\(∀ g,Γ'.St g->Γ.St g\/∃ b,L<=b/\Γ.nm b=some g)/\
  (∀ b g,Γ'.nm b=some g->Γ.nm b=some g)/\Γ'.yv = Γ.yv/\(∀ b,b<L->Γ'.nm b = Γ.nm b/\A2 (R7 L st).hp b=A2 st.hp b)/\L<=(R7 L st).hp.length:=by
 unfold R7
 split
 ·rename_i hlow
  have hlen:(st.hp.take L).length=L:=by rw [List.length_take];omega
  have hr:=Am7 S.hr hL hlow
  have hnm:∀ b g,(Γ.cut L).nm b=some g->Γ.nm b=some g:=λb g h=>by
   simp only [Ctx.cut] at h
   grind
  have hfoot:=hI.foot _ _ _ _ S.inv
  refine ⟨Γ.cut L,⟨hr,⟨by simpa using S.sr.size,λc hc=>?_,λi hi=>?_⟩,S.g.mono (λ_ _=>rfl) (λ_ h=>Or.inl h),?_,λb g hg=>S.dis b g (hnm b g hg)⟩,
   λ_ h=>Or.inl h,λ_ h=>h,hnm,rfl,λb hb=>⟨by simp only [Ctx.cut];rw [if_pos hb],?_⟩,by rw [hlen];exact Nat.le_refl _⟩
  ·obtain ⟨j,hj,hc⟩:=B6.1 hc
   have hj':j<st.sl.length:=by simpa using hj
   obtain ⟨U,e,k⟩:=S.sr.slot j hj'
   rw [List.getElem_map] at hc
   have:=(GJ S.hr hL k).2 c hc
   show c<(st.hp.take L).length
   omega
  ·have hi':i<st.sl.length:=by simpa using hi
   obtain ⟨U,e,k⟩:=S.sr.slot i hi'
   exact ⟨U,e,by rw [List.getElem_map];exact (GJ S.hr hL k).1⟩
  ·refine hI.mono _ _ _ _ _ _ S.inv (λ_ h=>Or.inl h) (λg hg hp=>?_) (λg hg=>hr.stlt g hg) (λ_ _=>rfl) (Nat.le_refl _) rfl rfl rfl
   rcases hg with q | ⟨b,_,q⟩
   ·exact (hfoot g hp).2 q
   ·exact S.dis b g q hp
  ·simp only [A2,List.getElem?_take]
   rw [if_pos hb]
 ·exact ⟨Γ,S,λ_ h=>h,λ_ h=>.inl h,λ_ _ h=>h,rfl,λ_ _=>⟨rfl,rfl⟩,hL⟩
end
section
variable {σ R : Type} {r : R} {C : Cfg} {I : σ -> (Nat -> Prop) -> (Nat -> Prop) -> World -> Prop} {Γ Γ' : Ctx} {Φ Φ' : Nat -> Prop} {st : St σ} {a : Act} {w w' : World} {cl : D5} {yh : Yh σ} {yv : Value} {H H' : List Blk} {tmps : Array Value}
theorem Au7 {sh sh':Nat->Option Shp} {v:PV} {V:Value} (h:v.sv?.isSome=true) (hv:VP Γ sh w v V) (hs:∀ g,Γ.St g->Γ'.St g):VP Γ' sh' w v V/\v.nms=[]:=by
 cases v<;>simp [PV.sv?] at h
 ·exact ⟨.s _ _ (hv.inv_s.mono (λ_ _=>rfl) hs),rfl⟩
 ·rw [hv.inv_nsl];exact ⟨.nsl,rfl⟩
theorem HZ:∀ {l:List PV} {vs:List SV},Kd l=some vs->∀ v∈l,v.sv?.isSome=true
 | [],_,_,v,hv=>by simp at hv
 | x::l,vs,h,v,hv=>by
  simp only [Kd] at h
  split at h
  ·rename_i p q hp hq
   rcases List.mem_cons.1 hv with rfl | hv
   ·rw [hp];rfl
   ·exact HZ hq v hv
  ·cases h
theorem CJ {sh sh':Nat->Option Shp} (hs:∀ g,Γ.St g->Γ'.St g):∀ {args:List PV},Fo args=true->∀ v∈args,v.nms=[]/\∀ V,VP Γ sh w v V->VP Γ' sh' w v V
 | [],_,v,hv=>by simp at hv
 | x::r,h,v,hv=>by
  have key:(x.nms=[]/\∀ V,VP Γ sh w x V->VP Γ' sh' w x V)/\Fo r=true:=by
   unfold Fo at h
   split at h
   ·rename_i he;cases he
   ·rename_i he;cases he
    exact ⟨⟨rfl,λV hV=>(Au7 (Γ:=Γ) (Γ':=Γ') rfl hV hs).1⟩,h⟩
   ·rename_i l r' he
    cases he
    simp only [Bool.and_eq_true,Option.isSome_iff_exists] at h
    obtain ⟨⟨vs,hvs⟩,h⟩:=h
    refine ⟨⟨?_,λV hV=>?_⟩,h⟩
    ·simp only [PV.nms]
     rw [List.eq_nil_iff_forall_not_mem]
     intro c hc
     obtain ⟨j,hj,hc⟩:=B6.1 hc
     have hm:=HZ hvs _ (List.getElem_mem hj)
     generalize l[j]=u at hm hc
     cases u<;>simp [PV.sv?] at hm<;>simp [PV.nms] at hc
    ·obtain ⟨A,rfl,hA,hc⟩:=hV.inv_agg
     refine VP.mk_agg hA λj hj=>?_
     obtain ⟨U,e,k⟩:=hc j hj
     exact ⟨U,e,(Au7 (HZ hvs _ (List.getElem_mem hj)) k hs).1⟩
   ·cases h
  rcases List.mem_cons.1 hv with rfl | hv
  ·exact key.1
  ·exact CJ hs key.2 v hv
theorem Pp:∀ (ts:List Nat) (vs:List PV) (Vs:List Value) {sl:List PV} {tmps:Array Value},SR Γ H w sl tmps->vs.length=Vs.length->(∀ j (h:j<vs.length),∃ U,Vs[j]? = some U/\VP Γ (A2 H) w (vs[j]) U)->(∀ v∈vs,v.nms=[])->
  SR Γ H w (Gj sl ts vs) ((ts.zip Vs).foldl (λt (p:Nat × Value)=>t.setIfInBounds p.1 p.2) tmps)
 | [],vs,Vs,sl,tmps,h,_,_,_=>by cases vs<;>exact h
 | t::ts,[],[],sl,tmps,h,_,_,_=>h
 | t::ts,[],_::_,_,_,_,hl,_,_=>by simp at hl
 | t::ts,_::_,[],_,_,_,hl,_,_=>by simp at hl
 | t::ts,v::vs,V::Vs,sl,tmps,h,hl,hc,hn=>by
  have h0:VP Γ (A2 H) w v V:=by
   obtain ⟨U,e,k⟩:=hc 0 (by simp)
   simp only [List.getElem?_cons_zero,Option.some.injEq] at e
   subst e
   exact k
  have h1:=h.put (ds:=[]) ({ op:=.move (.const undef),dst:=some t,guard:=none,type:=0,after:=#[],pos:=default }:Oper) h0 (by rw [hn v (by simp)];simp)
  have h2:SR Γ H w (sl.set t v) (tmps.setIfInBounds t V):=h1
  exact Pp ts vs Vs h2 (by simpa using hl) (λj hj=>by
   obtain ⟨U,e,k⟩:=hc (j+1) (by simpa using hj)
   exact ⟨U,by simpa using e,by simpa using k⟩) (λv hv=>hn v (by simp [hv]))
theorem Ap1 (o:Out):((Al o).map jmp).isNone=(Al o).isNone:=by cases o<;>rfl
theorem Bm6 {Γ0:Ctx} {H0:List Blk} {w0:World} {Φ0:Nat->Prop} {sl0:List PV} {l D fn:Nat} {ps:Array Tmp} {aq body:Code} (hI:HI I) (hyv0:Γ0.yv=yv) (has:WP C I cl yh yv aq) (hbd:WP C I cl yh yv body)
  (hfix:∀ c∈B8 sl0,c<H0.length/\Fc C (A2 H0 c)) :
  OF C.P (RI C I Γ0 H0 w0 Φ0 sl0 tmps l D (Hr fn tmps ps aq body D)) (Ff ps sl0 (λst k=>B2 C cl yh aq st k) (λst k=>B2 C cl yh body st k)) (.func (.yield l) #[] #[]):=by
 intro args x b x' hyx hsv Γ Φ w Vs ⟨Γb,Φb,r⟩ hlt hc
 obtain ⟨H,pend,s1⟩:=x
 unfold Ff at hyx
 cases pend with
 | some o=>simp at hyx
 | none=>
 dsimp only at hyx
 split at hyx
 case isFalse=>cases hyx
 rename_i hps
 have hrun:(do let d <-Deferred.ofValue (.func (.yield l) #[] #[]) Vs;invoke d.target d.args:Sem Next).run C.P w=(Instr.yield l Vs).run C.P w:=by simp [Deferred.ofValue,invoke]
 have hsz:Vs.size=(Hr fn tmps ps aq body D .ready none).params.size:=by rw [hc.1,hps];rfl
 have hdr:=r.hd
 have hlr:w.heap[l]? = some (.loop (Hr fn tmps ps aq body D .ready none)):=r.hl
 intro ro n o a next Q hnext
 rw [hrun,run_yield hlr hsz,Oper.uponIn_round]
 refine ⟨λh=>(by simp [E5,Fence.wide] at h),roundIn_of_wpIn trivial ?_⟩
 have inΦ:∀ {g},Φb g\/(∃ b,Γb.nm b=some g)\/g=l\/g=D->Φ g:=fun {g} h=>(r.ph g).2 h
 have notSt:∀ {g},Φ g->¬ Γ.St g:=fun {g} h=>(r.ft g h).2
 let ΓB:Ctx:={ Γb with St:=Γ.St }
 have SB:SI C I ΓB Φb { sl:=sl0,hp:=H,s:=s1 } tmps w:=r.si.wideSt hI r.st (λg hg hp=>notSt (inΦ (.inl hp)) hg) (λb g hg hs=>notSt (inΦ (.inr (.inl ⟨b,hg⟩))) hs) hlt
 have hargs:=CJ (Γ:=Γ) (Γ':=ΓB) (sh:=λ_=>none) (sh':=A2 H) (w:=w) (λ_ h=>h) hsv
 have hSR:=Pp ps.toList args Vs.toList SB.sr (by rw [Array.length_toList];exact hc.1.symm) (λj hj=>by
  obtain ⟨U,e,k⟩:=hc.2 j hj
  exact ⟨U,by simpa using e,(hargs _ (List.getElem_mem hj)).2 U k⟩) (λv hv=>(hargs v hv).1)
 have hfold:(ps.zip Vs).foldl (λtmps (t,a)=>tmps.setIfInBounds t a) tmps=(ps.toList.zip Vs.toList).foldl (λt (p:Nat × Value)=>t.setIfInBounds p.1 p.2) tmps:=by
  rw [<-Array.foldl_toList,Array.toList_zip]
 have SA:SI C I ΓB Φb { sl:=Gj sl0 ps.toList args,hp:=H,s:=s1 } ((ps.zip Vs).foldl (λtmps (t,a)=>tmps.setIfInBounds t a) tmps) w:=⟨SB.hr,by rw [hfold];exact hSR,SB.g,SB.inv,SB.dis⟩
 have hyvB:ΓB.yv=yv:=r.pg.yv.trans hyv0
 have olB:Off ΓB Φb w l:=⟨r.ol.1,notSt (inΦ (.inr (.inr (.inl rfl)))),r.ol.2.2⟩
 have odB:Off ΓB Φb w D:=⟨r.od.1,notSt (inΦ (.inr (.inr (.inr rfl)))),r.od.2.2⟩
 have hfW:=hI.foot _ _ _ _ SA.inv
 refine has (n0:=0) (a:={ tmps:=(ps.zip Vs).foldl (λtmps (t,a)=>tmps.setIfInBounds t a) tmps,defers:=[] }) hyvB hyx SA (Mk.nil (Nat.zero_le _)) ?_
 intro o1 st1 a1 w1 Γ1 Φ1 h1 hs1 S1 hm1
 cases o1 with
 | exit id=>cases h1
 | ret=>cases h1
 | normal=>
 dsimp only at h1
 obtain ⟨ol1,el1⟩:=olB.step hs1
 obtain ⟨od1,ed1⟩:=odB.step hs1
 have hl1:w1.heap[l]? = some (.loop (Hr fn tmps ps aq body D .ready none)):=el1.trans hlr
 show ∃ w₂,(Instr.beginRound l).run C.P w1 = .ok () w₂/\body.wpIn (E5 (some l)) (n-1) C.P (roundPost C.P l _) a1 w₂
 refine ⟨_,run_beginRound hl1 rfl,?_⟩
 have O1:Nh Γ1 Φ1 w1 (w1.putObj l (.loop { Hr fn tmps ps aq body D .ready none with state:=.busy })):=Nh.put ol1
 have S2:=S1.offW hI O1
 refine hbd (hs1.yv.trans hyvB) h1 S2 (hm1.put hl1) ?_
 intro o2 st2 a2 w3 Γ2 Φ2 h2 hs2 S3 _
 simp only [Option.some.injEq,Prod.mk.injEq] at h2
 obtain ⟨rfl,rfl⟩:=h2
 obtain ⟨ol3,el3⟩:=(Off.put (ob:=.loop { Hr fn tmps ps aq body D .ready none with state:=.busy }) (l:=l) ol1).step hs2
 obtain ⟨od3,ed3⟩:=(Off.put (ob:=.loop { Hr fn tmps ps aq body D .ready none with state:=.busy }) (l:=l) od1).step hs2
 have hl3:w3.heap[l]? = some (.loop { Hr fn tmps ps aq body D .ready none with state:=.busy }):=el3.trans (World.putObj_heap_same ol1.1)
 have hend:=run_endRound (P:=C.P) ((Al o2).map jmp) hl3
 have hDl:D≠l:=by
  rintro rfl
  rw [hlr] at hdr
  cases hdr
 obtain ⟨w4,hw4⟩:∃ w4,w3.putObj l (.loop { { Hr fn tmps ps aq body D .ready none with state:=.busy } with state:=if ((Al o2).map jmp).isNone then .ready else .done,pending:=(Al o2).map jmp })=w4:=⟨_,rfl⟩
 rw [hw4] at hend
 have O3:Nh Γ2 Φ2 w3 w4:=by rw [<-hw4];exact Nh.put ol3
 have ol4:Off Γ2 Φ2 w4 l:=by rw [<-hw4];exact ol3.put
 have od4:Off Γ2 Φ2 w4 D:=by rw [<-hw4];exact od3.put
 have S4:=S3.offW hI O3
 have hlen:H.length<=st2.hp.length:=Nat.le_trans hs1.len hs2.len
 obtain ⟨Γ3,S5,t1,t2,t3,t4,t5,t6⟩:=Av0 hI S4 hlen
 have ets:(R7 H.length st2).s=st2.s:=by unfold R7;split<;>rfl
 have PgR:Pg C ΓB H w Φb Γ2 st2.hp w4 Φ2:=hs1.pg.trans ((Pg.off S1.hr O1).trans (hs2.pg.trans (Pg.off S3.hr O3)))
 have P1:Pg C Γ0 H0 w0 Φ0 Γ2 st2.hp w4 Φ2:=r.pg.trans ((Pg.wideSt r.si.hr r.st).trans PgR)
 have hst1:=hs1.st SA.hr (λg hg=>(hfW g hg).2)
 have hst2:=hs2.st S2.hr (λg hg=>(hI.foot _ _ _ _ S2.inv g hg).2)
 have hstA:∀ g,ΓB.St g->w4.heap[g]? = w.heap[g]?:=λg hg=>by
  have q1:=hs1.sub g hg
  have q2:=hs2.sub g q1
  rw [O3.same g (.inl q2),hst2 g q1,O1.same g (.inl q1),hst1 g hg]
 have hL0:=r.pg.len
 have hkeep:∀ c,c<H0.length/\Fc C (A2 H0 c)->Γ3.nm c = ΓB.nm c/\A2 (R7 H.length st2).hp c=A2 H c/\∀ g,ΓB.nm c=some g->w4.shape? g=w.shape? g:=λc ⟨hc1,hc2⟩=>by
  obtain ⟨_,k2,_⟩:=r.pg.keep c hc1 hc2
  have hcH:c<H.length:=Nat.lt_of_lt_of_le hc1 hL0
  obtain ⟨m1,m2,m3⟩:=PgR.keep c hcH (by rw [k2];exact hc2)
  obtain ⟨n1,n2⟩:=t5 c hcH
  exact ⟨n1.trans m1,n2.trans m2,m3⟩
 have M:T7 ΓB (A2 H) w Γ3 (A2 (R7 H.length st2).hp) w4 (λc=>c<H0.length/\Fc C (A2 H0 c)):=
  ⟨hstA,λg hg=>t1 g (PgR.sub g hg),λb hb=>(hkeep b hb).1,λb hb=>(hkeep b hb).2.1,λb g hb hg=>(hkeep b hb).2.2 g hg,t4.trans PgR.yv⟩
 have SF:SI C I Γ3 Φ2 { sl:=sl0,hp:=(R7 H.length st2).hp,s:=st2.s } tmps w4:=
  ⟨S5.hr,SB.sr.mono M (λc hc=>⟨hfix c hc,Nat.lt_of_lt_of_le (hfix c hc).1 (Nat.le_trans hL0 t6)⟩),S5.g,by have:=S5.inv;rw [ets] at this;exact this,S5.dis⟩
 have PF:Pg C Γ0 H0 w0 Φ0 Γ3 (R7 H.length st2).hp w4 Φ2:=⟨P1.os,P1.tape,P1.output,P1.size,λg hg=>t1 g (P1.sub g hg),λb g hb=>P1.own b g (t3 b g hb),P1.foot,t4.trans P1.yv,Nat.le_trans hL0 t6,λb hb hf=>by
  obtain ⟨k1,k2,k3⟩:=P1.keep b hb hf
  obtain ⟨n1,n2⟩:=t5 b (Nat.lt_of_lt_of_le hb hL0)
  exact ⟨n1.trans k1,n2.trans k2,k3⟩⟩
 have offT:∀ {g},Off Γ2 Φ2 w4 g->Off Γ3 Φ2 w4 g:=fun {g} h=>⟨h.1,λq=>by
  rcases t2 g q with q | ⟨b,_,q⟩
  ·exact h.2.1 q
  ·exact h.2.2.1 b q,λb q=>h.2.2.1 b (t3 b g q),h.2.2.2⟩
 have hl4:w4.heap[l]? = some (.loop (Hr fn tmps ps aq body D (A97 (Al o2)) ((Al o2).map jmp))):=by
  rw [<-hw4,World.putObj_heap_same ol3.1]
  cases o2<;>rfl
 have hd4:w4.heap[D]? = some (.deferred (some [])):=by
  rw [<-hw4,World.putObj_heap_other hDl,ed3,World.putObj_heap_other hDl,ed1]
  exact hdr
 have hf5:=hI.foot _ _ _ _ SF.inv
 have RB:RIb C I Γ0 H0 w0 Φ0 sl0 tmps l D (Hr fn tmps ps aq body D) ((R7 H.length st2).hp,Al o2,st2.s) Γ3.St (λg=>Φ2 g\/(∃ b,Γ3.nm b=some g)\/g=l\/g=D) w4 Γ3 Φ2:=by
  refine ⟨SF,PF,λ_ h=>h,λ_=>Iff.rfl,λg hg=>?_,offT ol4,offT od4,hl4,hd4⟩
  rcases hg with q | ⟨b,q⟩ | rfl | rfl
  ·exact hf5 g q
  ·have:=SF.hr.lt b g q
   exact ⟨this.2.1,this.2.2⟩
  ·exact ⟨ol4.1,(offT ol4).2.1⟩
  ·exact ⟨od4.1,(offT od4).2.1⟩
 have hs1sz:=hs1.size
 have e2:∀ {g},(w1.putObj l (.loop { Hr fn tmps ps aq body D .ready none with state:=.busy })).heap.size<=g->w.heap.size<=g:=fun {g} q=>Nat.le_trans (Nat.le_trans hs1sz O1.size) q
 have e3:∀ {g},g<w.heap.size->g<(w1.putObj l (.loop { Hr fn tmps ps aq body D .ready none with state:=.busy })).heap.size:=fun {g} q=>Nat.lt_of_lt_of_le q (Nat.le_trans hs1sz O1.size)
 have fin:next (a.put o.dst (.bool ((Al o2).map jmp).isNone)) w4:=by
  refine hnext _ _ ⟨by rw [Ap1],Γ3.St,_,⟨Γ3,Φ2,RB⟩,λg hg=>t1 g (PgR.sub g hg),λg hg=>?_,λg hg=>?_,λg hg hp=>?_,PgR.size,PgR.os,PgR.tape,PgR.output,SF.hr.stlt⟩
  ·have st2c:Γ2.St g->Γ.St g\/w.heap.size<=g:=λq=>by
    rcases hs2.stnew g q with q | q
    ·exact hs1.stnew g q
    ·exact .inr (e2 q)
   rcases t2 g hg with q | ⟨b,hb,q⟩
   ·exact st2c q
   ·rcases hs2.own b g q with ⟨_,q⟩ | q
    ·rcases hs1.own b g q with ⟨q',_⟩ | q
     ·simp only at q';omega
     ·exact .inr q
    ·exact .inr (e2 q)
  ·rcases hg with q | ⟨b,q⟩ | rfl | rfl
   ·rcases PgR.foot g q with q | q
    ·exact .inl (inΦ (.inl q))
    ·exact .inr q
   ·rcases PgR.own b g (t3 b g q) with ⟨_,q⟩ | q
    ·exact .inl (inΦ (.inr (.inl ⟨b,q⟩)))
    ·exact .inr q
   ·exact .inl (inΦ (.inr (.inr (.inl rfl))))
   ·exact .inl (inΦ (.inr (.inr (.inr rfl))))
  ·have hgl:g≠l:=λe=>hp (inΦ (.inr (.inr (.inl e))))
   have n1:∀ b,ΓB.nm b≠some g:=λb q=>hp (inΦ (.inr (.inl ⟨b,q⟩)))
   have p1:¬ Φb g:=λq=>hp (inΦ (.inl q))
   have n2:∀ b,Γ1.nm b≠some g:=λb q=>by
    rcases hs1.own b g q with ⟨_,q⟩ | q
    ·exact n1 b q
    ·omega
   have p2:¬ Φ1 g:=λq=>by
    rcases hs1.foot g q with q | q
    ·exact p1 q
    ·omega
   rw [<-hw4,World.putObj_heap_other hgl,hs2.frame g (e3 hg) n2 p2,World.putObj_heap_other hgl,hs1.frame g hg n1 p1]
 cases o2 with
 | normal=>exact ⟨_,_,hend,fin⟩
 | exit id=>exact ⟨_,_,hend,fin⟩
 | ret=>exact ⟨_,_,hend,fin⟩
end
section
variable {σ R S : Type} (C : Cfg) (g : R -> Option S)
theorem D0 (c:Bool) (k:Option R):(need c k).bind g=need c (k.bind g):=by cases c<;>rfl
theorem C2 (b:Bool) (k:Bool->Option R):(Fk b k).bind g=Fk b λt=>(k t).bind g:=by cases b<;>rfl
theorem E0 (b:Bool) (x y:Option R):(cond b x y).bind g=cond b (x.bind g) (y.bind g):=by cases b<;>rfl
theorem F9 (p:Prop) [Decidable p] (x y:Option R):(if p then x else y).bind g=if p then x.bind g else y.bind g:=by split<;>rfl
theorem C8:∀ (t:Tr) (k:PV->List Blk->Option R),(Z9 t k).bind g=Z9 t λv H=>(k v H).bind g
 | .ret v H,k=>rfl
 | .need c t,k=>by cases c;rfl;exact C8 t k
 | .split c a b,k=>by cases c;exact C8 b k;exact C8 a k
 | .fail,_=>rfl
theorem AN (op:BinOp) (t:Nat) (x y:PV) (H:List Blk) (k:PV->Option R):(YP C op t x y H k).bind g=YP C op t x y H λv=>(k v).bind g:=by unfold YP;((try dsimp only);(repeat' (first | rfl | split | (simp only [D0,C2,E0,F9,C8,Option.bind_none,Option.bind_some]))))
theorem NB (op:UnOp) (x:PV) (k:PV->Option R):(unK op x k).bind g=unK op x λv=>(k v).bind g:=by unfold unK;((try dsimp only);(repeat' (first | rfl | split | (simp only [D0,C2,E0,F9,C8,Option.bind_none,Option.bind_some]))))
theorem Xp (t:TI) (a:PV) (H:List Blk) (k:PV->Option R):(Lm t a H k).bind g=Lm t a H λv=>(k v).bind g:=by unfold Lm;((try dsimp only);(repeat' (first | rfl | split | (simp only [D0,C2,E0,F9,C8,Option.bind_none,Option.bind_some]))))
theorem Tx (t:TI) (a v:PV) (H:List Blk) (k:List Blk->Option R):(Ng t a v H k).bind g=Ng t a v H λv=>(k v).bind g:=by unfold Ng;((try dsimp only);(repeat' (first | rfl | split | (simp only [D0,C2,E0,F9,C8,Option.bind_none,Option.bind_some]))))
theorem Ii (t:Nat) (x i:PV) (H:List Blk) (k:PV->Option R):(Af C t x i H k).bind g=Af C t x i H λv=>(k v).bind g:=by unfold Af;((try dsimp only);(repeat' (first | rfl | split | (simp only [D0,C2,E0,F9,C8,Option.bind_none,Option.bind_some]))))
theorem Te (t:Nat) (x i:PV) (k:PV->Option R):(Rt C t x i k).bind g=Rt C t x i λv=>(k v).bind g:=by unfold Rt;((try dsimp only);(repeat' (first | rfl | split | (simp only [D0,C2,E0,F9,C8,Option.bind_none,Option.bind_some]))))
theorem MN (t:Nat) (x:PV) (lo hi mx:Option PV) (H:List Blk) (k:PV->Option R):(Sl C t x lo hi mx H k).bind g=Sl C t x lo hi mx H λv=>(k v).bind g:=by unfold Sl;((try dsimp only);(repeat' (first | rfl | split | (simp only [D0,C2,E0,F9,C8,Option.bind_none,Option.bind_some]))))
theorem Yz (b n:Nat) (lo hi mx:Option PV) (k:PV->Option R):(Cu b n lo hi mx k).bind g=Cu b n lo hi mx λv=>(k v).bind g:=by unfold Cu;((try dsimp only);(repeat' (first | rfl | split | (simp only [D0,C2,E0,F9,C8,Option.bind_none,Option.bind_some]))))
theorem EZ (t:Nat) (sl:List PV) (s x:PV) (H:List Blk) (k:PV->List PV->List Blk->Option R):(Bu C t sl s x H k).bind g=Bu C t sl s x H λv a b=>(k v a b).bind g:=by unfold Bu;((try dsimp only);(repeat' (first | rfl | split | (simp only [D0,C2,E0,F9,C8,Option.bind_none,Option.bind_some]))))
theorem PJ (t:Nat) (d x:PV) (H:List Blk) (k:PV->List Blk->Option R):(AP C t d x H k).bind g=AP C t d x H λv a=>(k v a).bind g:=by unfold AP;((try dsimp only);(repeat' (first | rfl | split | (simp only [D0,C2,E0,F9,C8,Option.bind_none,Option.bind_some]))))
theorem PI (src dst:Nat) (x:PV) (H:List Blk) (k:PV->Option R):(AO C src dst x H k).bind g=AO C src dst x H λv=>(k v).bind g:=by unfold AO;((try dsimp only);(repeat' (first | rfl | split | (simp only [D0,C2,E0,F9,C8,Option.bind_none,Option.bind_some]))))
theorem JB (src dst:Nat) (x:PV) (k:PV->Option R):(Rb C src dst x k).bind g=Rb C src dst x λv=>(k v).bind g:=by unfold Rb;((try dsimp only);(repeat' (first | rfl | split | (simp only [D0,C2,E0,F9,C8,Option.bind_none,Option.bind_some]))))
theorem Aa2 (x:PV) (t:Nat) (H:List Blk) (k:PV->Option R):(Aa1 C x t H k).bind g=Aa1 C x t H λv=>(k v).bind g:=by unfold Aa1;((try dsimp only);(repeat' (first | rfl | split | (simp only [D0,C2,E0,F9,C8,Option.bind_none,Option.bind_some]))))
theorem Ss (t:Nat) (parts:List (Nat × PV)) (k:PV->Option R):(Ra C t parts k).bind g=Ra C t parts λv=>(k v).bind g:=by unfold Ra;((try dsimp only);(repeat' (first | rfl | split | (simp only [D0,C2,E0,F9,C8,Option.bind_none,Option.bind_some]))))
theorem Ft (t len:Nat) (parts:List (Nat × PV)) (H:List Blk) (k:PV->List Blk->Option R):(W6 C t len parts H k).bind g=W6 C t len parts H λv a=>(k v a).bind g:=by unfold W6;((try dsimp only);(repeat' (first | rfl | split | (simp only [D0,C2,E0,F9,C8,Option.bind_none,Option.bind_some]))))
theorem Il (t:Nat) (l c:PV) (H:List Blk) (k:PV->List Blk->Option R):(Ai C t l c H k).bind g=Ai C t l c H λv a=>(k v a).bind g:=by unfold Ai;((try dsimp only);(repeat' (first | rfl | split | (simp only [D0,C2,E0,F9,C8,Option.bind_none,Option.bind_some]))))
theorem Oq (mx:Bool) (l:List PV) (k:PV->Option R):(Hm mx l k).bind g=Hm mx l λv=>(k v).bind g:=by unfold Hm;((try dsimp only);(repeat' (first | rfl | split | (simp only [D0,C2,E0,F9,C8,Option.bind_none,Option.bind_some]))))
theorem Ih (t:Nat) (x:PV) (f:Nat) (k:PV->Option R):(Ad C t x f k).bind g=Ad C t x f λv=>(k v).bind g:=by unfold Ad;((try dsimp only);(repeat' (first | rfl | split | (simp only [D0,C2,E0,F9,C8,Option.bind_none,Option.bind_some]))))
theorem Td (t:Nat) (x:PV) (f:Nat) (k:PV->Option R):(Rn C t x f k).bind g=Rn C t x f λv=>(k v).bind g:=by unfold Rn;((try dsimp only);(repeat' (first | rfl | split | (simp only [D0,C2,E0,F9,C8,Option.bind_none,Option.bind_some]))))
theorem Zl (b:Builtin) (ts:List Nat) (args:List PV) (st:St σ) (k:PV->St σ->Option R):(Au C b ts args st k).bind g=Au C b ts args st λv s=>(k v s).bind g:=by
 unfold Au
 split
 ·rw [Aa2]
 ·split
  ·rw [EZ]
  ·rfl
 ·rw [PJ]
 ·rw [Oq]
 ·rw [Oq]
 ·rfl
theorem Qz (e:Nat) (cells:List PV) (H:List Blk) (k:PV->List Blk->Option R):(Ub C e cells H k).bind g=Ub C e cells H λv a=>(k v a).bind g:=by unfold Ub;((try dsimp only);(repeat' (first | rfl | split | (simp only [D0,C2,E0,F9,C8,Option.bind_none,Option.bind_some]))))
theorem Wn (cl:D5) (yh:Yh σ) (f:Nat) (args:List PV) (st:St σ) (k:PV->St σ->Option R):(Nq C cl yh f args st k).bind g=Nq C cl yh f args st λv s=>(k v s).bind g:=by
 unfold Nq
 split
 ·split
  ·rw [C8]
   congr 1;funext v H;rw [D0]
  ·rfl
 ·((try dsimp only);(repeat' (first | rfl | split | (simp only [D0,C2,E0,F9,C8,Option.bind_none,Option.bind_some]))))
theorem Ay2 (x:Option (Bool × σ)) (k:Bool->σ->Option R):(ydK x k).bind g=ydK x λb s=>(k b s).bind g:=by unfold ydK;((try dsimp only);(repeat' (first | rfl | split | (simp only [D0,C2,E0,F9,C8,Option.bind_none,Option.bind_some]))))
theorem PG (cl:D5) (yh:Yh σ) (f:PV) (args:List PV) (st:St σ) (k:PV->St σ->Option R):(Sw C cl yh f args st k).bind g=Sw C cl yh f args st λv s=>(k v s).bind g:=by
 unfold Sw
 split
 ·rw [Wn]
 ·rw [Wn]
 ·split
  ·rw [Ay2]
  ·rfl
 ·rfl
theorem KT (cl:D5) (yh:Yh σ) (o:Oper) (st:St σ) (k:St σ->Option R):(opK C cl yh o st k).bind g=opK C cl yh o st λs=>(k s).bind g:=by
 unfold opK
 dsimp only
 split<;>(first | rfl | (simp only [Qz,Ss,Ft,Xp,Tx,AN,NB,Il,Ih,Td,Ii,Te];done) | skip)
 all_goals ((try dsimp only);(repeat' (first | rfl | split | (simp only [D0,C2,E0,F9,C8,Option.bind_none,Option.bind_some]))))
 all_goals (first | rfl | skip)
 all_goals (simp only [Zl,PG,Qz,Ss,Ft,Xp,Tx,AN,NB,Il,Ih,Td,Ii,Te,JB,PI,MN,Yz,D0,C2])
theorem Ky (cl:D5) (yh:Yh σ) (all:Array Oper):∀ (l:List Oper) (st:St σ) (k:St σ->Option R),(Bk C cl yh all l st k).bind g=Bk C cl yh all l st λs=>(k s).bind g
 | [],st,k=>rfl
 | o::rest,st,k=>by
  simp only [Bk]
  have ih:=Ky cl yh all rest
  split
  ·rw [KT];congr 1;funext s;exact ih s k
  ·split
   ·split
    ·rw [C2];congr 1;funext b
     split
     ·rw [KT];congr 1;funext s;exact ih s k
     ·exact ih _ k
    ·exact ih _ k
    ·rfl
   ·rfl
theorem Ae6 (o:Oper) (sl:List PV) (k:Trn->Option R):(TY C o sl k).bind g=TY C o sl λv=>(k v).bind g:=by
 unfold TY
 repeat' (first | rfl | split | rw [D0])
theorem VA (d:Option Nat) (t:Trn) (st:St σ) (k:St σ->Option R):(Lq C d t st k).bind g=Lq C d t st λs=>(k s).bind g:=by
 unfold Lq
 split
 ·rfl
 ·exact Qz C g _ _ _ _
theorem Xx (cl:D5) (yh:Yh σ) (all:Array Oper) (fd:List Nat × List Nat) (H0:List Blk):∀ (p:Bool) (l:List Nat) (st:St σ) (k:St σ->Option R),(Ow C cl yh all fd H0 p l st k).bind g=Ow C cl yh all fd H0 p l st λs=>(k s).bind g
 | _,[],st,k=>rfl
 | p,i::rest,st,k=>by
  simp only [Ow]
  rw [D0,Ky]
  congr 2;funext s
  exact Xx cl yh all fd H0 _ rest _ k
theorem Ho (cl:D5) (yh:Yh σ) (all:Array Oper) (fd:Option (List Nat × List Nat)) (H0:List Blk) (p:Bool) (l:List Nat) (st:St σ) (k:St σ->Option R):(Gf C cl yh all fd H0 p l st k).bind g=Gf C cl yh all fd H0 p l st λs=>(k s).bind g:=by
 cases fd with
 | none=>exact Ky C g cl yh all _ st k
 | some f=>exact Xx C g cl yh all f H0 p l st k
theorem Xz (cl:D5) (yh:Yh σ) (all:Array Oper) (fd:Option (List Nat × List Nat)) (H0:List Blk) (d:Option Nat):∀ (l:List Nat) (st:St σ) (k:St σ->Option R),(Im C cl yh all fd H0 d l st k).bind g=Im C cl yh all fd H0 d l st λs=>(k s).bind g
 | [],st,k=>rfl
 | i::rest,st,k=>by
  simp only [Im]
  rw [Ho]
  congr 1;funext s
  exact Xz cl yh all fd H0 d rest _ k
theorem Ad8 (cl:D5) (yh:Yh σ) (id:Nat) (ops:Array Oper) (d:Bool) (st:St σ) (k:St σ->Option R):(TB C cl yh id ops d st k).bind g=TB C cl yh id ops d st λs=>(k s).bind g:=by
 unfold TB
 split
 ·split
  ·exact Ho C g cl yh ops _ _ _ _ st k
  ·exact Ky C g cl yh ops _ st k
 ·split
  ·rw [Ho];congr 1;funext s
   rw [Ae6];congr 1;funext v
   rw [Xz];congr 1;funext s2
   rw [VA];congr 1;funext s3
   exact Ho C g cl yh ops _ _ _ _ _ k
  ·rfl
theorem Xq (L:Nat) (ds:Option (List Nat)) (body:St σ->(Out->St σ->Option R)->Option R) (body':St σ->(Out->St σ->Option S)->Option S) (hb:∀ st k,(body st k).bind g=body' st λo s=>(k o s).bind g):∀ (n:Nat) (st:St σ) (k:Out->St σ->Option R),(D6 L ds body n st k).bind g=D6 L ds body' n st λo s=>(k o s).bind g
 | 0,st,k=>rfl
 | n+1,st,k=>by
  simp only [D6]
  rw [hb]
  congr 1;funext o s
  cases o with
  | normal=>exact Xq L ds body body' hb n _ k
  | exit id=>rfl
  | ret=>rfl
theorem Pj {ps:Array Tmp} {sl0:List PV} {aq bd:St σ->(Out->St σ->Option R)->Option R} {as' bd':St σ->(Out->St σ->Option S)->Option S} (ha:∀ st k,(aq st k).bind g=as' st λo s=>(k o s).bind g) (hb:∀ st k,(bd st k).bind g=bd' st λo s=>(k o s).bind g) :
  ∀ (L:List (List PV)) (H:List Blk) (s:σ) (k:Option Out->List Blk->σ->Option R),(V3 ps sl0 aq bd L H s k).bind g=V3 ps sl0 as' bd' L H s λp H s=>(k p H s).bind g
 | [],H,s,k=>rfl
 | x::xs,H,s,k=>by
  simp only [V3]
  split
  ·rw [ha]
   congr 1;funext o st1
   cases o with
   | normal=>
    dsimp only
    rw [hb]
    congr 1;funext o2 st2
    cases o2 with
    | normal=>exact Pj ha hb xs _ _ k
    | exit id=>rfl
    | ret=>rfl
   | exit id=>rfl
   | ret=>rfl
  ·rfl
theorem LE (cl:D5) (f:PV) (st:St σ) (yR:List PV->Yh (List Blk × Option Out × σ)) {sR:List PV->List (List PV)->List Blk->σ->(Option Out->List Blk->σ->Option R)->Option R} {sR':List PV->List (List PV)->List Blk->σ->(Option Out->List Blk->σ->Option S)->Option S}
  (hs:∀ sl0 L H s k,(sR sl0 L H s k).bind g=sR' sl0 L H s λp H s=>(k p H s).bind g) (k:Out->St σ->Option R):(Nb C cl f st yR sR k).bind g=Nb C cl f st yR sR' λo s=>(k o s).bind g:=by
 unfold Nb
 split
 ·split
  ·unfold SU
   split
   ·split
    ·rw [D0,hs];rfl
    ·rfl
   ·rfl
  ·unfold Pc;((try dsimp only);(repeat' (first | rfl | split | (simp only [D0,C2,E0,F9,C8,Option.bind_none,Option.bind_some]))))
 ·rfl
end
theorem Tb {σ:Type} (C:Cfg) (cl:D5) (yh:Yh σ):∀ (c:Code) {R S:Type} (g:R->Option S) (st:St σ) (k:Out->St σ->Option R),(B2 C cl yh c st k).bind g=B2 C cl yh c st λo s=>(k o s).bind g:=by
 intro c
 induction c with
 | skip=>intros;rfl
 | label l=>intros;rfl
 | region id ops d=>intro R S g st k;simp only [B2];rw [Ad8]
 | seq a b iha ihb=>
  intro R S g st k
  simp only [B2]
  rw [iha]
  congr 1;funext o s
  cases o with
  | normal=>exact ihb g s k
  | exit id=>rfl
  | ret=>rfl
 | cond c a b iha ihb=>
  intro R S g st k
  simp only [B2]
  split
  ·rw [C2];congr 1;funext t
   rw [E0,iha,ihb]
  ·rfl
 | block id a ih=>
  intro R S g st k
  simp only [B2]
  rw [ih]
  congr 1;funext o s
  cases o with
  | normal=>rfl
  | exit j=>dsimp only;split<;>rfl
  | ret=>rfl
 | loop a ih=>
  intro R S g st k
  simp only [B2]
  exact Xq g _ _ _ _ (λst k=>ih g st k) _ _ _
 | scope a ih=>intro R S g st k;simp only [B2];rw [ih]
 | exit id=>intros;rfl
 | ret=>intros;rfl
 | rangeFunc f ps a b iha ihb=>
  intro R S g st k
  simp only [B2]
  exact LE C g cl (opnd C st.sl f) st _ (sR:=λsl0=>V3 ps sl0 (λst k=>B2 C cl yh a st k) (λst k=>B2 C cl yh b st k)) (sR':=λsl0=>V3 ps sl0 (λst k=>B2 C cl yh a st k) (λst k=>B2 C cl yh b st k))
   (λsl0 L H s k=>Pj (ps:=ps) (sl0:=sl0) g (aq:=λst k=>B2 C cl yh a st k) (bd:=λst k=>B2 C cl yh b st k) (as':=λst k=>B2 C cl yh a st k) (bd':=λst k=>B2 C cl yh b st k) (λst k=>iha g st k) (λst k=>ihb g st k) L H s k) k
 | _=>intros;rfl
theorem Wy {σ R:Type} {C:Cfg} {cl:D5} {yh:Yh σ} {c:Code} {st:St σ} {k:Out->St σ->Option R} {r:R} (h:B2 C cl yh c st k=some r):∃ o s,B2 C cl yh c st (λo s=>some (o,s))=some (o,s)/\k o s=some r:=by
 have:=Tb C cl yh c (λp:Out × St σ=>k p.1 p.2) st (λo s=>some (o,s))
 simp only [Option.bind_some] at this
 rw [<-this] at h
 cases he:B2 C cl yh c st (λo s=>some (o,s)) with
 | none=>rw [he] at h;cases h
 | some p=>rw [he] at h;exact ⟨p.1,p.2,rfl,h⟩
theorem AU {σ R:Type} {C:Cfg} {cl:D5} {yh:Yh σ} {c:Code} {st:St σ} {k:Out->St σ->Option R} {o:Out} {s:St σ} (h:B2 C cl yh c st (λo s=>some (o,s))=some (o,s)):B2 C cl yh c st k=k o s:=by
 have:=Tb C cl yh c (λp:Out × St σ=>k p.1 p.2) st (λo s=>some (o,s))
 rw [h] at this
 exact this.symm
def Ctx.hide (Γ:Ctx) (ns:List Nat):Ctx:={ Γ with nm:=λb=>if b∈ns then none else Γ.nm b }
def Ctx.reyv (Γ:Ctx) (y:Value) (hy:y.oneCell'=true):Ctx:={ Γ with yv:=y,yv1:=hy }
section
variable {σ R : Type} {r : R} {C : Cfg} {I : σ -> (Nat -> Prop) -> (Nat -> Prop) -> World -> Prop} {Γ Γ' : Ctx} {Φ Φ' : Nat -> Prop} {st : St σ} {a : Act} {w w' : World} {cl : D5} {yh : Yh σ} {yv : Value} {H H' : List Blk} {tmps : Array Value}
theorem Ic:∀ {l:List PV},yfL l=true->∀ v∈l,v.yf=true
 | [],_,v,hv=>by simp at hv
 | x::r,h,v,hv=>by
  simp only [yfL,Bool.and_eq_true] at h
  rcases List.mem_cons.1 hv with rfl | hv
  ·exact h.1
  ·exact Ic h.2 v hv
theorem VP.reyv {sh:Nat->Option Shp} {y:Value} {hy:y.oneCell'=true} {v:PV} {V:Value} (h:VP Γ sh w v V):v.yf=true->VP (Γ.reyv y hy) sh w v V:=by
 induction h with
 | s v V h=>intro _;exact .s v V h
 | nsl=>intro _;exact .nsl
 | flv b e sz h=>intro _;exact .flv b e sz h
 | fl b g v e sz n cap h hv hg hcap hm hs=>intro _;exact .fl b g v e sz n cap h hv hg hcap hm hs
 | vwv b e sz i h=>intro _;exact .vwv b e sz i h
 | vw b i n g a cap v e sz m h hv hg ha hi hcap hm=>intro _;exact .vw b i n g a cap v e sz m h hv hg ha hi hcap hm
 | ptrA b i off g v e sz n h hg=>intro _;exact .ptrA b i off g v e sz n h hg
 | ptrB b off g h hg=>intro _;exact .ptrB b off g h hg
 | fnr g x y A B As Bs hf hA hB ha hb hx hy ihx ihy=>
  intro hc
  simp only [PV.yf,Bool.and_eq_true] at hc
  exact .fnr g x y A B As Bs hf hA hB ha hb (λj h=>ihx j h (Ic hc.1 _ (List.getElem_mem h))) (λj h=>ihy j h (Ic hc.2 _ (List.getElem_mem h)))
 | it b g h hg=>intro _;exact .it b g h hg
 | yd=>intro h;simp [PV.yf] at h
 | agg l A As hA ha hl ih=>
  intro hc
  simp only [PV.yf] at hc
  exact .agg l A As hA ha (λj h=>ih j h (Ic hc _ (List.getElem_mem h)))
 | tup l A As hA ha hl ih=>
  intro hc
  simp only [PV.yf] at hc
  exact .tup l A As hA ha (λj h=>ih j h (Ic hc _ (List.getElem_mem h)))
 | bad V=>intro _;exact .bad V
mutual
theorem PV.yf_rn (f:Nat->Nat):∀ v:PV,(v.rn f).yf=v.yf
 | .s _=>rfl
 | .nsl=>rfl
 | .fl b=>rfl
 | .vw b _ _=>rfl
 | .ptr b _ _=>rfl
 | .fnr _ x y=>by simp only [PV.rn,PV.yf,Sp f x,Sp f y]
 | .it b=>rfl
 | .yd=>rfl
 | .agg l=>by simp only [PV.rn,PV.yf,Sp f l]
 | .tup l=>by simp only [PV.rn,PV.yf,Sp f l]
 | .bad=>rfl
theorem Sp (f:Nat->Nat):∀ l:List PV,yfL (rnL f l)=yfL l
 | []=>rfl
 | v::r=>by simp only [rnL,yfL,PV.yf_rn f v,Sp f r]
end
theorem Blk.yf_rn (f:Nat->Nat) (x:Blk):(x.rn f).yf=x.yf:=by cases x<;>simp [Blk.rn,Blk.yf,Sp]
theorem BR.reyv {sh:Nat->Option Shp} {b:Nat} {x:Blk} {y:Value} {hy:y.oneCell'=true} (h:BR Γ sh w b x) (hx:x.yf=true):BR (Γ.reyv y hy) sh w b x:=by
 cases x with
 | arr v e sz els=>exact h
 | box cells=>
  simp only [Blk.yf] at hx
  obtain ⟨g,cur,e,h1,h2,h3,h4⟩:=h
  refine ⟨g,cur,e,h1,h2,h3,λj h=>?_⟩
  obtain ⟨V,e1,e2⟩:=h4 j h
  exact ⟨V,e1,e2.reyv (Ic hx _ (List.getElem_mem h))⟩
 | iter s p=>exact h
 | dead=>exact h
theorem HR.reyv {y:Value} {hy:y.oneCell'=true} (h:HR Γ H w) (hx:∀ b (h:b<H.length),(H[b]).yf=true):HR (Γ.reyv y hy) H w:=
 ⟨h.inj,h.lt,h.stlt,h.nms,λb hb=>(h.blk b hb).reyv (hx b hb)⟩
theorem Xr:∀ (H:List Blk) (n:Nat),∀ b (h:b<H.length),(n+b)∈X1 C H n\/Az C H[b]=true
 | [],n,b,h=>by simp at h
 | x::r,n,0,_=>by
  cases hf:Az C x with
  | true=>exact .inr hf
  | false=>exact .inl (by simp [X1,hf])
 | x::r,n,b+1,h=>by
  have:=Xr r (n+1) b (by simpa using h)
  rw [show n+1+b=n+(b+1) by omega] at this
  rcases this with q | q
  ·refine .inl ?_
   simp only [X1]
   cases Az C x with
   | true=>exact q
   | false=>exact List.mem_cons_of_mem _ q
  ·exact .inr (by simpa using q)
theorem BA {ns:List Nat} (hsh:∀ b,b∉ns->A2 H' b=A2 H b):T7 Γ (A2 H) w (Γ.hide ns) (A2 H') w (·∉ns):=
 ⟨λ_ _=>rfl,λ_ h=>h,λb hb=>by simp only [Ctx.hide];rw [if_neg hb],hsh,λ_ _ _ _=>rfl,rfl⟩
theorem Az9 {ns:List Nat} (hH:HR Γ H w) (hnd:ns.Nodup) (hlt:∀ b∈ns,b<H.length):(J7 ns H).length=H.length/\(∀ b,b∉ns->A2 (J7 ns H) b=A2 H b)/\(∀ b,b∈ns->A2 (J7 ns H) b=some .dead)/\HR (Γ.hide ns) (J7 ns H) w:=by
 obtain ⟨kb1,kb2,kb3⟩:=Jn (Γ:=Γ) (sh:=A2 H) (w:=w) ns H
 obtain ⟨sa1,sa2⟩:=Ep ns (List.replicate ns.length .dead) (N2 ns H) hnd (by simp) (λb hb=>by rw [kb1];exact hlt b hb)
 have hl:(J7 ns H).length=H.length:=by rw [J7,sa1,kb1]
 have hout:∀ b,b∉ns->(J7 ns H)[b]? = (N2 ns H)[b]?:=λb hb=>by rw [J7,sa2,if_neg hb]
 have hin:∀ b,b∈ns->(J7 ns H)[b]? = some .dead:=λb hb=>by
  rw [J7,sa2,if_pos hb,List.getElem?_replicate,if_pos (List.idxOf_lt_length_of_mem hb)]
 have hsh:∀ b,b∉ns->A2 (J7 ns H) b=A2 H b:=λb hb=>by
  rw [<-kb2 b];simp only [A2,hout b hb]
 have M:=BA (Γ:=Γ) (H:=H) (w:=w) hsh
 have hnm:∀ b g,(Γ.hide ns).nm b=some g->b∉ns/\Γ.nm b=some g:=λb g h=>by
  simp only [Ctx.hide] at h
  split at h
  ·cases h
  ·exact ⟨‹_›,h⟩
 refine ⟨hl,hsh,λb hb=>by simp only [A2,hin b hb];rfl,⟨λb b' g h1 h2=>hH.inj b b' g (hnm b g h1).2 (hnm b' g h2).2,λb g h=>?_,hH.stlt,λb hb c hc=>?_,λb hb=>?_⟩⟩
 ·obtain ⟨q1,q2,q3⟩:=hH.lt b g (hnm b g h).2
  exact ⟨by rw [hl];exact q1,q2,q3⟩
 ·rw [hl] at hb ⊢
  by_cases h:b∈ns
  ·have:=hin b h
   rw [List.getElem?_eq_getElem (by rw [hl];exact hb)] at this
   simp only [Option.some.injEq] at this
   rw [this] at hc;simp [Blk.nms] at hc
  ·have e:=hout b h
   rw [List.getElem?_eq_getElem (by rw [hl];exact hb),List.getElem?_eq_getElem (by rw [kb1];exact hb)] at e
   simp only [Option.some.injEq] at e
   rw [e] at hc
   exact hH.nms b hb c ((kb3 b (by rw [kb1];exact hb) hb).1 c hc).2
 ·rw [hl] at hb
  by_cases h:b∈ns
  ·have:=hin b h
   rw [List.getElem?_eq_getElem (by rw [hl];exact hb)] at this
   simp only [Option.some.injEq] at this
   rw [this];trivial
  ·have e:=hout b h
   rw [List.getElem?_eq_getElem (by rw [hl];exact hb),List.getElem?_eq_getElem (by rw [kb1];exact hb)] at e
   simp only [Option.some.injEq] at e
   rw [e]
   obtain ⟨q1,q2⟩:=kb3 b (by rw [kb1];exact hb) hb
   exact (q2 b (hH.blk b hb)).mono M (M.nm b h) (λ_ _=>rfl) (λc hc=>(q1 c hc).1)
theorem Qv {ob:Obj} {g:Nat} (h:g<w.heap.size):(w.alloc ob).heap[g]? = w.heap[g]?:=by
 show (w.heap.push ob)[g]? = w.heap[g]?
 rw [Array.getElem?_push]
 rw [if_neg (by omega)]
theorem Lp {v:PV} {V:Value} {sh:Nat->Option Shp} {f:Nat} {first caps:List PV} (h:Lc v=some (f,first,caps)) (hv:VP Γ sh w v V):∃ A B,V = .func (.func f) A B/\CR Γ sh w first A/\CR Γ sh w caps B/\∀ c∈B8 (first++caps),c∈v.nms:=by
 have hs:∀ (l:List SV),B8 (l.map PV.s)=[]:=λl=>by
  rw [List.eq_nil_iff_forall_not_mem]
  intro c hc
  obtain ⟨j,hj,hc⟩:=B6.1 hc
  simp [PV.nms] at hc
 unfold Lc at h
 split at h
 ·simp only [Option.some.injEq,Prod.mk.injEq] at h
  obtain ⟨rfl,rfl,rfl⟩:=h
  obtain ⟨A,B,rfl,hA,hB⟩:=hv.inv_fn'
  exact ⟨A,B,rfl,hA,hB,λc hc=>by rw [K4,hs,hs] at hc;simp at hc⟩
 ·simp only [Option.some.injEq,Prod.mk.injEq] at h
  obtain ⟨rfl,rfl,rfl⟩:=h
  obtain ⟨A,B,rfl,hA,hB⟩:=hv.inv_fnr'
  exact ⟨A,B,rfl,hA,hB,λc hc=>by rw [K4] at hc;simpa [PV.nms] using hc⟩
 ·cases h
theorem VP.ndead {sh:Nat->Option Shp} {v:PV} {V:Value} (h:VP Γ sh w v V):∀ c∈v.nms,sh c≠some .dead:=by
 induction h with
 | s v V h=>intro c hc;simp [PV.nms] at hc
 | nsl=>intro c hc;simp [PV.nms] at hc
 | flv b e sz h=>intro c hc;simp [PV.nms] at hc;subst hc;rw [h];simp
 | fl b g v e sz n cap h hv hg hcap hm hs=>intro c hc;simp [PV.nms] at hc;subst hc;rw [h];simp
 | vwv b e sz i h=>intro c hc;simp [PV.nms] at hc;subst hc;rw [h];simp
 | vw b i n g a cap v e sz m h hv hg ha hi hcap hm=>intro c hc;simp [PV.nms] at hc;subst hc;rw [h];simp
 | ptrA b i off g v e sz n h hg=>intro c hc;simp [PV.nms] at hc;subst hc;rw [h];simp
 | ptrB b off g h hg=>intro c hc;simp [PV.nms] at hc;subst hc;rw [h];simp
 | fnr g x y A B As Bs hf hA hB ha hb hx hy ihx ihy=>
  intro c hc
  simp only [PV.nms,List.mem_append] at hc
  rcases hc with hc | hc
  ·obtain ⟨j,hj,hc⟩:=B6.1 hc;exact ihx j hj c hc
  ·obtain ⟨j,hj,hc⟩:=B6.1 hc;exact ihy j hj c hc
 | it b g h hg=>intro c hc;simp [PV.nms] at hc;subst hc;rw [h];simp
 | yd=>intro c hc;simp [PV.nms] at hc
 | agg l A As hA ha hl ih=>intro c hc;simp only [PV.nms] at hc;obtain ⟨j,hj,hc⟩:=B6.1 hc;exact ih j hj c hc
 | tup l A As hA ha hl ih=>intro c hc;simp only [PV.nms] at hc;obtain ⟨j,hj,hc⟩:=B6.1 hc;exact ih j hj c hc
 | bad V=>intro c hc;simp [PV.nms] at hc
theorem BR.ndead {sh:Nat->Option Shp} {b:Nat} {x:Blk} (h:BR Γ sh w b x):∀ c∈x.nms,sh c≠some .dead:=by
 cases x with
 | box cells=>
  intro c hc
  simp only [Blk.nms] at hc
  obtain ⟨j,hj,hc⟩:=B6.1 hc
  obtain ⟨g,cur,e,h1,h2,h3,h4⟩:=h
  obtain ⟨V,_,e2⟩:=h4 j hj
  exact e2.ndead c hc
 | arr v e sz els=>intro c hc;simp [Blk.nms] at hc
 | iter s p=>intro c hc;simp [Blk.nms] at hc
 | dead=>intro c hc;simp [Blk.nms] at hc
theorem Yj {n n0:Nat} {g:Operand} {ps:Array Tmp} {aq body:Code} {k:Out->St σ->Option R} {Q:Exit->Act->World->Prop} {cl2:D5} {f:Nat} {first caps:List PV} {ns:List Nat} (A:Ask C I cl yh yv) (hC2:X8 C cl2) (hyv:Γ.yv=yv) (has:WP C I cl yh yv aq) (hbd:WP C I cl yh yv body)
  (hra:Lc (opnd C st.sl g)=some (f,first,caps)) (hnd:ns.Nodup) (hsub:∀ c∈B8 (first++caps),c∈ns) (hlt:∀ b∈ns,b<st.hp.length)
  (h:Pc C cl2 f first caps ns st (λsl0=>Ff ps sl0 (λst k=>B2 C cl yh aq st k) (λst k=>B2 C cl yh body st k)) k=some r) (S:SI C I Γ Φ st a.tmps w) (hM:Mk n0 Γ Φ w a.defers) (hP:Ay5 C I n0 Γ Φ st.hp w k r Q) :
  (Code.rangeFunc g ps aq body).wpIn (E5 none) n C.P Q a w:=by
 have hv:=(S.opnd g).1
 have hvn:=(S.opnd g).2
 obtain ⟨FA,FB,hFV,hcA,hcB,hnf⟩:=Lp hra hv
 unfold Pc at h
 split at h
 case isFalse=>cases h
 rename_i hcond
 simp only [Bool.and_eq_true,List.all_eq_true] at hcond
 obtain ⟨⟨⟨hcl,hyf⟩,hyb⟩,hent⟩:=hcond
 split at h
 case h_2=>cases h
 rename_i ret Hc H1 pend s' hcall
 refine wpIn_rangeFunc (λfn _=>?_)
 obtain ⟨W1,hW1⟩:∃ W1,(w.alloc (.deferred (some []))).alloc (.loop (Hr fn a.tmps ps aq body w.heap.size .ready none))=W1:=⟨_,rfl⟩
 have hsz1:W1.heap.size=w.heap.size+2:=by rw [<-hW1];simp
 have hold:∀ g,g<w.heap.size->W1.heap[g]? = w.heap[g]?:=λg hg=>by
  rw [<-hW1,Qv (by simp;omega),Qv hg]
 have hlr:W1.heap[w.heap.size+1]? = some (.loop (Hr fn a.tmps ps aq body w.heap.size .ready none)):=by
  rw [<-hW1];have:=World.alloc_heap_new (w.alloc (.deferred (some []))) (.loop (Hr fn a.tmps ps aq body w.heap.size .ready none));rwa [World.size_alloc] at this
 have hdr:W1.heap[w.heap.size]? = some (.deferred (some [])):=by
  rw [<-hW1,Qv (by simp)];exact World.alloc_heap_new w _
 have ho:W1.os=w.os/\W1.tape=w.tape/\W1.output=w.output:=by rw [<-hW1];exact ⟨rfl,rfl,rfl⟩
 obtain ⟨S1,hs1⟩:=S.wide A.hI (St':=Γ.St) hold (by omega) (λ_ h=>h) (λ_ h=>.inl h) (λg hg=>by have:=S.hr.stlt g hg;omega) ho.1 ho.2.1 ho.2.2
 have S1:SI C I Γ Φ st a.tmps W1:=S1
 have hf0:=A.hI.foot _ _ _ _ S.inv
 have offN:∀ {g},w.heap.size<=g->g<W1.heap.size->Off Γ Φ W1 g:=fun {g} h1 h2=>⟨h2,λq=>by have:=S.hr.stlt g q;omega,λb q=>by have:=(S.hr.lt b g q).2.1;omega,λq=>by have:=(hf0 g q).1;omega⟩
 have olW:Off Γ Φ W1 (w.heap.size+1):=offN (by omega) (by omega)
 have odW:Off Γ Φ W1 w.heap.size:=offN (by omega) (by omega)
 obtain ⟨dl,dsh,dsd,dHR⟩:=Az9 S1.hr hnd hlt
 have hkL:=Hh (Γ:=Γ) (sh:=A2 st.hp) (w:=W1) (ns++X1 C st.hp 0) st.sl
 have hideM:=BA (Γ:=Γ) (H:=st.hp) (H':=J7 ns st.hp) (w:=W1) dsh
 have hslN:∀ c∈B8 (I3 (ns++X1 C st.hp 0) st.sl),c∉ns/\c<st.hp.length/\Az C (st.hp.getD c .dead)=true:=λc hc=>by
  obtain ⟨q1,q2⟩:=hkL.2.1 c hc
  have q3:=S.sr.nms c q2
  simp only [List.mem_append,not_or] at q1
  refine ⟨q1.1,q3,?_⟩
  have e:st.hp.getD c .dead=st.hp[c]:=by rw [List.getD_eq_getElem?_getD,List.getElem?_eq_getElem q3];rfl
  rw [e]
  rcases Xr (C:=C) st.hp 0 c q3 with q | q
  ·rw [Nat.zero_add] at q;exact absurd q q1.2
  ·exact q
 have hSR0:SR (Γ.hide ns) (J7 ns st.hp) W1 (I3 (ns++X1 C st.hp 0) st.sl) a.tmps:=by
  have h0:SR Γ st.hp W1 (I3 (ns++X1 C st.hp 0) st.sl) a.tmps:=⟨by rw [hkL.1];exact S1.sr.size,λc hc=>(hslN c hc).2.1,λi hi=>by
   have hi':i<st.sl.length:=by rw [<-hkL.1];exact hi
   obtain ⟨V,e1,e2⟩:=S1.sr.slot i hi'
   exact ⟨V,e1,hkL.2.2 i hi hi' V e2⟩⟩
  exact h0.mono hideM (λc hc=>⟨(hslN c hc).1,by rw [dl];exact (hslN c hc).2.1⟩)
 have hideN:∀ {b g},(Γ.hide ns).nm b=some g->b∉ns/\Γ.nm b=some g:=fun {b g} h=>by
  simp only [Ctx.hide] at h
  split at h
  ·cases h
  ·exact ⟨‹_›,h⟩
 have SS:SI C I (Γ.hide ns) Φ { sl:=I3 (ns++X1 C st.hp 0) st.sl,hp:=J7 ns st.hp,s:=st.s } a.tmps W1:=⟨dHR,hSR0,S1.g,S1.inv,λb g hb=>S1.dis b g (hideN hb).2⟩
 have hfix:∀ c∈B8 (I3 (ns++X1 C st.hp 0) st.sl),c<(J7 ns st.hp).length/\Fc C (A2 (J7 ns st.hp) c):=λc hc=>by
  obtain ⟨q1,q2,q3⟩:=hslN c hc
  exact ⟨by rw [dl];exact q2,by rw [dsh c q1];exact (Wz q2).1 q3⟩
 have offH:∀ {g},Off Γ Φ W1 g->Off (Γ.hide ns) Φ W1 g:=fun {g} h=>⟨h.1,h.2.1,λb q=>h.2.2.1 b (hideN q).2,h.2.2.2⟩
 let Φc:Nat->Prop:=λg=>Φ g\/(∃ b,(Γ.hide ns).nm b=some g)\/g=w.heap.size+1\/g=w.heap.size
 have RI0:RI C I (Γ.hide ns) (J7 ns st.hp) W1 Φ (I3 (ns++X1 C st.hp 0) st.sl) a.tmps (w.heap.size+1) w.heap.size (Hr fn a.tmps ps aq body w.heap.size) (J7 ns st.hp,none,st.s) Γ.St Φc W1:=by
  refine ⟨Γ.hide ns,Φ,SS,Stp.pg (Stp.refl dHR),λ_ h=>h,λ_=>Iff.rfl,λg hg=>?_,offH olW,offH odW,hlr,hdr⟩
  rcases hg with q | ⟨b,q⟩ | rfl | rfl
  ·have:=A.hI.foot _ _ _ _ S1.inv g q;exact this
  ·have:=dHR.lt b g q;exact ⟨this.2.1,this.2.2⟩
  ·exact ⟨olW.1,olW.2.1⟩
  ·exact ⟨odW.1,odW.2.1⟩
 have hHc:=GF S1.hr hnd hlt hcl
 have hci:=λb (h:b∈ns)=>V5 h
 have hlH:(L2 st.hp ns).length=ns.length:=by simp [L2]
 let y:Value:=.func (.yield (w.heap.size+1)) #[] #[]
 have hy1:y.oneCell'=true:=rfl
 have hHc':HR ((Γ.lent ns).reyv y hy1) (L2 st.hp ns) W1:=hHc.reyv (λb hb=>by
  have hb':b<ns.length:=by rw [<-hlH];exact hb
  simp only [L2,List.getElem_map,Blk.yf_rn]
  exact hyb _ (List.getElem_mem hb'))
 have rnCR:∀ {l:List PV} {V:Array Value},CR Γ (A2 st.hp) w l V->yfL l=true->(∀ c∈B8 l,c∈ns)->CR ((Γ.lent ns).reyv y hy1) (A2 (L2 st.hp ns)) W1 (rnL (F0 ns) l) V:=fun {l V} hc hy hn=>by
  have hc1:CR Γ (A2 st.hp) W1 l V:=hc.mono (Γ':=Γ) (H':=st.hp) (So S.hr hold (λ_ h=>h)) (λ_ _=>trivial)
  rw [Si]
  refine ⟨by rw [List.length_map];exact hc1.1,λj hj=>?_⟩
  have hj':j<l.length:=by simpa using hj
  obtain ⟨U,e,q⟩:=hc1.2 j hj'
  refine ⟨U,e,?_⟩
  rw [List.getElem_map]
  refine VP.reyv (VP.rn (Γ:=Γ) (Γ':=Γ.lent ns) rfl q (.inr λ_ h=>h) (λc hc=>?_)) (by rw [PV.yf_rn];exact Ic hy _ (List.getElem_mem hj'))
  have hcn:=hn c (B6.2 ⟨j,hj',hc⟩)
  obtain ⟨q1,q2⟩:=hci c hcn
  exact ⟨Kr hcn,by rw [Gb hlt q1,q2]⟩
 have yfA:∀ (x z:List PV),yfL (x++z)=(yfL x&&yfL z):=λx z=>by
  induction x with
  | nil=>simp [yfL]
  | cons v x ih=>simp [yfL,ih,Bool.and_assoc]
 rw [yfA,Bool.and_eq_true] at hyf
 have hargs:CR ((Γ.lent ns).reyv y hy1) (A2 (L2 st.hp ns)) W1 (rnL (F0 ns) first++.yd::rnL (F0 ns) caps) (FA++#[y]++FB):=by
  have h1:=rnCR hcA hyf.1 (λc hc=>hsub c (by rw [K4];simp [hc]))
  have h2:=rnCR hcB hyf.2 (λc hc=>hsub c (by rw [K4];simp [hc]))
  have h3:CR ((Γ.lent ns).reyv y hy1) (A2 (L2 st.hp ns)) W1 [.yd] #[y]:=CR.one .yd
  have:=(h1.append h3).append h2
  simpa using this
 have hargn:∀ c∈B8 (rnL (F0 ns) first++.yd::rnL (F0 ns) caps),c<(L2 st.hp ns).length:=λc hc=>by
  have:c∈(B8 (first++caps)).map (F0 ns):=by
   rw [K4] at hc
   simp only [B8,PV.nms,List.nil_append,Ei,List.mem_append] at hc
   rw [K4,List.map_append,List.mem_append]
   exact hc
  obtain ⟨d,hd,rfl⟩:=List.mem_map.1 this
  rw [hlH]
  exact (hci d (hsub d hd)).1
 have lentN:∀ {i g},(Γ.lent ns).nm i=some g->∃ hi:i<ns.length,Γ.nm ns[i]=some g:=fun {i g} h=>by
  simp only [Ctx.lent] at h
  cases hi:ns[i]? with
  | none=>rw [hi] at h;simp at h
  | some b=>
   obtain ⟨h1,h2⟩:=List.getElem?_eq_some_iff.1 hi
   rw [hi] at h
   exact ⟨h1,by rw [h2];exact h⟩
 have hcall':=hC2 _ _ _ y (Bm5 A.hI) (Bm6 (fn:=fn) (ps:=ps) (aq:=aq) (body:=body) (l:=w.heap.size+1) (D:=w.heap.size) (tmps:=a.tmps) (w0:=W1) (Φ0:=Φ) (Γ0:=Γ.hide ns) A.hI hyv has hbd hfix) f _ _ _ ret Hc _ hcall ((Γ.lent ns).reyv y hy1) Φc W1 (FA++#[y]++FB) rfl hHc' S1.g RI0 (λi g hi=>by
  obtain ⟨hi1,hi2⟩:=lentN hi
  rintro (q | ⟨b,q⟩ | rfl | rfl)
  ·exact S1.dis _ g hi2 q
  ·obtain ⟨q1,q2⟩:=hideN q
   have:=S1.hr.inj _ _ g hi2 q2
   exact q1 (this ▸ List.getElem_mem hi1)
  ·exact olW.2.2.1 _ hi2
  ·exact odW.2.2.1 _ hi2) hargs hargn
 have hcalls:=Qb (ro:=none) (n:=n) (U9 hent) hcall'
 refine ⟨w.heap.size+1,[mkD w.heap.size],W1,{ target:=.fn (.func f) FB,args:=FA++#[y] },W1,f,FA++#[y]++FB,W1,?_,?_,λ_ _=>trivial,?_,λh=>by simp [E5,Fence.wide] at h,hcalls.mono ?_⟩
 ·rw [<-hW1];exact run_enterLoop_outer _ _ _ _ _
 ·simp [resolve,hFV,Deferred.ofValue]
  rfl
 ·show (callFunc f (FA++#[y]++FB)).run C.P W1=_
  exact U9 hent
 rintro e W2 ⟨V,rfl,Γ1,Φ1,hs,hH1,hvv,hvn1,⟨Γb,Φb,r1⟩,hd1⟩
 have hlr2:=r1.hl
 have hend:=run_endLoop (P:=C.P) hlr2 (by cases pend<;>simp [Hr,A97])
 obtain ⟨w4,hw4⟩:∃ w4,W2.putObj (w.heap.size+1) (.loop { Hr fn a.tmps ps aq body w.heap.size (A97 pend) (pend.map jmp) with state:=.exhausted })=w4:=⟨_,rfl⟩
 rw [hw4] at hend
 have O:Nh Γb Φb W2 w4:=by rw [<-hw4];exact Nh.put r1.ol
 have hsz4:w4.heap.size=W2.heap.size:=by rw [<-hw4];simp
 have h4:∀ g,g≠w.heap.size+1->w4.heap[g]? = W2.heap[g]?:=λg hg=>by rw [<-hw4];exact World.putObj_heap_other hg
 have inΦ:∀ {g},Φb g\/(∃ b,Γb.nm b=some g)\/g=w.heap.size+1\/g=w.heap.size->Φ1 g:=fun {g} h=>(r1.ph g).2 h
 have S5:=(r1.si.offW A.hI O).wideSt A.hI (St':=Γ1.St) r1.st (λg hg hp=>(r1.ft g (inΦ (.inl hp))).2 hg) (λb g hb hg=>(r1.ft g (inΦ (.inr (.inl ⟨b,hb⟩)))).2 hg) (λg hg=>by rw [hsz4];exact hH1.stlt g hg)
 have hl1:st.hp.length<=H1.length:=by have:=r1.pg.len;rw [dl] at this;exact this
 have hH1c:ns.length<=Hc.length:=by have:=hs.len;rw [List.length_map] at this;exact this
 obtain ⟨sb1,sb2⟩:=Ep ns (ns.map λb=>cond (Az C (st.hp.getD b .dead)) (Fs (Hc.getD (F0 ns b) .dead)) .dead) H1 hnd (by simp) (λb hb=>Nat.lt_of_lt_of_le (hlt b hb) hl1)
 generalize hH2:IY C ns st.hp Hc H1=H2 at h
 have hl2:H2.length=H1.length:=by rw [<-hH2];exact sb1
 have gin:∀ b (hb:b∈ns),H2[b]? = some (cond (Az C (st.hp.getD b .dead)) (Fs (Hc.getD (F0 ns b) .dead)) .dead):=λb hb=>by
  rw [<-hH2]
  simp only [IY]
  rw [sb2,if_pos hb,List.getElem?_map]
  have e:ns.idxOf b=F0 ns b:=rfl
  rw [e,List.getElem?_eq_getElem (hci b hb).1,(hci b hb).2]
  rfl
 have gout:∀ b,b∉ns->H2[b]? = H1[b]?:=λb hb=>by
  rw [<-hH2]
  simp only [IY]
  rw [sb2,if_neg hb]
 let Γf:Ctx:={ St:=Γ1.St,nm:=λb=>if b∈ns then (if Az C (st.hp.getD b .dead)=true then Γ1.nm (F0 ns b) else none) else Γb.nm b,yv:=Γ.yv,yv1:=Γ.yv1 }
 have fin1:∀ {b},b∈ns->Az C (st.hp.getD b .dead)=true->Γf.nm b = Γ1.nm (F0 ns b):=fun {b} h1 h2=>by simp only [Γf];rw [if_pos h1,if_pos h2]
 have fin0:∀ {b},b∈ns->¬ Az C (st.hp.getD b .dead)=true->Γf.nm b=none:=fun {b} h1 h2=>by simp only [Γf];rw [if_pos h1,if_neg h2]
 have fout:∀ {b},b∉ns->Γf.nm b = Γb.nm b:=fun {b} h1=>by simp only [Γf];rw [if_neg h1]
 have fcase:∀ {b g},Γf.nm b=some g->(b∈ns/\Γ1.nm (F0 ns b)=some g)\/(b∉ns/\Γb.nm b=some g):=fun {b g} h=>by
  by_cases hb:b∈ns
  ·by_cases hf:Az C (st.hp.getD b .dead)=true
   ·rw [fin1 hb hf] at h;exact .inl ⟨hb,h⟩
   ·rw [fin0 hb hf] at h;cases h
  ·rw [fout hb] at h;exact .inr ⟨hb,h⟩
 have hshD:∀ c,c∈ns->A2 H1 c=some .dead:=λc hc=>by
  obtain ⟨_,k2,_⟩:=r1.pg.keep c (by rw [dl];exact hlt c hc) (by rw [dsd c hc];trivial)
  rw [k2];exact dsd c hc
 have hsh2:∀ b,b∉ns->A2 H2 b=A2 H1 b:=λb hb=>by simp only [A2,gout b hb]
 have Mf:T7 { Γb with St:=Γ1.St } (A2 H1) w4 Γf (A2 H2) w4 (·∉ns):=⟨λ_ _=>rfl,λ_ h=>h,λb hb=>fout hb,hsh2,λ_ _ _ _=>rfl,(r1.pg.yv:Γb.yv = Γ.yv).symm⟩
 have hHf:HR Γf H2 w4:=by
  refine ⟨λb b' g h1 h2=>?_,λb g hb=>?_,λg hg=>by rw [hsz4];exact hH1.stlt g hg,λb hb c hc=>?_,λb hb=>?_⟩
  ·rcases fcase h1 with ⟨p1,q1⟩ | ⟨p1,q1⟩<;>rcases fcase h2 with ⟨p2,q2⟩ | ⟨p2,q2⟩
   ·have:=hH1.inj _ _ g q1 q2
    have e1:=(hci b p1).2
    have e2:=(hci b' p2).2
    rw [<-e1,<-e2]
    simp only [this]
   ·exact absurd (inΦ (.inr (.inl ⟨b',q2⟩))) (hd1 _ g q1)
   ·exact absurd (inΦ (.inr (.inl ⟨b,q1⟩))) (hd1 _ g q2)
   ·exact r1.si.hr.inj b b' g q1 q2
  ·rcases fcase hb with ⟨p1,q1⟩ | ⟨p1,q1⟩
   ·have:=hH1.lt _ g q1
    exact ⟨by rw [hl2];exact Nat.lt_of_lt_of_le (hlt b p1) hl1,by rw [hsz4];exact this.2.1,this.2.2⟩
   ·have:=S5.hr.lt b g q1
    exact ⟨by rw [hl2];exact this.1,this.2⟩
  ·by_cases hbn:b∈ns
   ·have e:=gin b hbn
    rw [List.getElem?_eq_getElem hb] at e
    simp only [Option.some.injEq] at e
    rw [e] at hc
    cases hf:Az C (st.hp.getD b .dead) with
    | true=>rw [hf,cond_true,AL] at hc;simp at hc
    | false=>rw [hf] at hc;simp [Blk.nms] at hc
   ·have e:=gout b hbn
    have hb1:b<H1.length:=by rw [<-hl2];exact hb
    rw [List.getElem?_eq_getElem hb,List.getElem?_eq_getElem hb1] at e
    simp only [Option.some.injEq] at e
    rw [e] at hc
    rw [hl2]
    exact S5.hr.nms b hb1 c hc
  ·by_cases hbn:b∈ns
   ·have e:=gin b hbn
    rw [List.getElem?_eq_getElem hb] at e
    simp only [Option.some.injEq] at e
    rw [e]
    cases hf:Az C (st.hp.getD b .dead) with
    | true=>
     rw [cond_true]
     have hi:F0 ns b<Hc.length:=Nat.lt_of_lt_of_le (hci b hbn).1 hH1c
     rw [Of hi]
     refine Al1 (hH1.blk _ hi) (fin1 hbn hf) (λg hg=>h4 g ?_) (λ_ h=>h) (λg hg=>h4 g ?_)
     ·rintro rfl;exact (r1.ft _ (inΦ (.inr (.inr (.inl rfl))))).2 hg
     ·rintro rfl;exact hd1 _ _ hg (inΦ (.inr (.inr (.inl rfl))))
    | false=>trivial
   ·have e:=gout b hbn
    have hb1:b<H1.length:=by rw [<-hl2];exact hb
    rw [List.getElem?_eq_getElem hb,List.getElem?_eq_getElem hb1] at e
    simp only [Option.some.injEq] at e
    rw [e]
    have hB:=S5.hr.blk b hb1
    exact hB.mono Mf (fout hbn) (λ_ _=>rfl) (λc hc hcn=>hB.ndead c hc (hshD c hcn))
 have hSRf:SR Γf H2 w4 (I3 (ns++X1 C st.hp 0) st.sl) a.tmps:=S5.sr.mono Mf (λc hc=>⟨(hslN c hc).1,by rw [hl2];exact Nat.lt_of_lt_of_le (hslN c hc).2.1 hl1⟩)
 have SF:SI C I Γf Φb { sl:=I3 (ns++X1 C st.hp 0) st.sl,hp:=H2,s:=s' } a.tmps w4:=⟨hHf,hSRf,S5.g,S5.inv,λb g hb=>by
  rcases fcase hb with ⟨_,q1⟩ | ⟨_,q1⟩
  ·exact λq=>hd1 _ g q1 (inΦ (.inl q))
  ·exact S5.dis b g q1⟩
 have hsz2:=hs.size
 have STF:Stp C Γ st.hp w Φ Γf H2 w4 Φb:=by
  refine ⟨O.os.trans (hs.os.trans ho.1),O.tape.trans (hs.tape.trans ho.2.1),O.output.trans (hs.output.trans ho.2.2),by omega,λg hg=>hs.sub g hg,λg hg=>?_,λb g hb=>?_,λg hg=>?_,λg hg hn hp=>?_,rfl,by rw [hl2];exact hl1,λb hb hf=>?_⟩
  ·rcases hs.stnew g hg with q | q
   ·exact .inl q
   ·exact .inr (by omega)
  ·rcases fcase hb with ⟨p1,q1⟩ | ⟨p1,q1⟩
   ·rcases hs.own _ g q1 with ⟨_,q⟩ | q
    ·obtain ⟨i1,i2⟩:=lentN q
     rw [(hci b p1).2] at i2
     exact .inl ⟨hlt b p1,i2⟩
    ·exact .inr (by omega)
   ·rcases r1.pg.own b g q1 with ⟨q,q'⟩ | q
    ·exact .inl ⟨by rw [<-dl];exact q,(hideN q').2⟩
    ·exact .inr (by omega)
  ·rcases r1.pg.foot g hg with q | q
   ·exact .inl q
   ·exact .inr (by omega)
  ·have np:¬ Φc g:=by
    rintro (q | ⟨b,q⟩ | q | q)
    ·exact hp q
    ·exact hn b (hideN q).2
    ·omega
    ·omega
   rw [h4 g (by omega),hs.frame g (by omega) (λb q=>by obtain ⟨_,i2⟩:=lentN q;exact hn _ i2) np,hold g hg]
  ·by_cases hbn:b∈ns
   ·have hfb:=(Wz (C:=C) (H:=st.hp) hb).2 hf
    obtain ⟨q1,q2⟩:=hci b hbn
    have hi:F0 ns b<(L2 st.hp ns).length:=by rw [hlH];exact q1
    have hsl:A2 (L2 st.hp ns) (F0 ns b)=A2 st.hp b:=by rw [Gb hlt q1,q2]
    obtain ⟨k1,k2,k3⟩:=hs.keep _ hi (by show Fc C (A2 (L2 st.hp ns) _);rw [hsl];exact hf)
    have k2:A2 Hc (F0 ns b)=A2 (L2 st.hp ns) (F0 ns b):=k2
    have hnmb:((Γ.lent ns).reyv y hy1).nm (F0 ns b) = Γ.nm b:=Kr hbn
    refine ⟨(fin1 hbn hfb).trans (k1.trans hnmb),?_,λg hg=>?_⟩
    ·have hi':F0 ns b<Hc.length:=Nat.lt_of_lt_of_le q1 hH1c
     simp only [A2,gin b hbn,hfb,cond_true,Option.map_some,AM,Of hi']
     show some (Hc[F0 ns b]).shp=A2 st.hp b
     rw [<-hsl,<-k2]
     simp only [A2,List.getElem?_eq_getElem hi',Option.map_some]
    ·have e1:=k3 g (hnmb.trans hg)
     have hgl:=S.hr.lt b g hg
     rw [D1 (h4 g (by omega)),e1,D1 (hold g hgl.2.1)]
   ·obtain ⟨k1,k2,k3⟩:=r1.pg.keep b (by rw [dl];exact hb) (by rw [dsh b hbn];exact hf)
    have hh:(Γ.hide ns).nm b = Γ.nm b:=by simp only [Ctx.hide];rw [if_neg hbn]
    refine ⟨(fout hbn).trans (k1.trans hh),by rw [hsh2 b hbn,k2,dsh b hbn],λg hg=>?_⟩
    have hgl:=S.hr.lt b g hg
    rw [D1 (h4 g (by omega)),k3 g (hh.trans hg),D1 (hold g hgl.2.1)]
 have hMf:Mk n0 Γf Φb w4 (mkD w.heap.size::a.defers):=by
  obtain ⟨m0,Ds,m1,m2,m3⟩:=hM
  refine ⟨by omega,w.heap.size::Ds,by rw [m1];rfl,List.nodup_cons.2 ⟨λhmem=>?_,m2⟩,λD hD=>?_⟩
  ·have:=(m3 _ hmem).2.1.1;omega
  ·rcases List.mem_cons.1 hD with rfl | hD
   ·refine ⟨m0,⟨by omega,(r1.ft _ (inΦ (.inr (.inr (.inr rfl))))).2,λb q=>?_,r1.od.2.2.2⟩,by rw [h4 _ (by omega)];exact r1.hd⟩
    rcases fcase q with ⟨_,q1⟩ | ⟨_,q1⟩
    ·exact hd1 _ _ q1 (inΦ (.inr (.inr (.inr rfl))))
    ·exact r1.od.2.2.1 b q1
   ·obtain ⟨k1,k2,k3⟩:=m3 D hD
    obtain ⟨q1,q2⟩:=k2.step STF
    exact ⟨k1,q1,q2.trans k3⟩
 have fin:=hP (pend.getD .normal) { sl:=I3 (ns++X1 C st.hp 0) st.sl,hp:=H2,s:=s' } { a with defers:=mkD w.heap.size::a.defers } w4 Γf Φb h STF SF hMf
 refine ⟨pend.map jmp,w4,hend,?_⟩
 cases pend with
 | none=>exact fin
 | some o=>
  cases o with
  | normal=>exact wpIn_skip fin
  | exit id=>exact wpIn_exit fin
  | ret=>exact wpIn_ret fin
theorem Ts {ps:Array Tmp} {sl0:List PV} {aq body:Code}:∀ (L:List (List PV)) (H:List Blk) (s:σ) {k:Option Out->List Blk->σ->Option R},V3 ps sl0 (λst k=>B2 C cl yh aq st k) (λst k=>B2 C cl yh body st k) L H s k=some r->
  ∃ H' pend s',Q3 (Ff ps sl0 (λst k=>B2 C cl yh aq st k) (λst k=>B2 C cl yh body st k)) L (H,none,s)=some (H',pend,s')/\k pend H' s'=some r
 | [],H,s,k,h=>⟨H,none,s,rfl,h⟩
 | x::xs,H,s,k,h=>by
  simp only [V3] at h
  split at h
  case isFalse=>cases h
  rename_i hx
  obtain ⟨o,st1,e1,h1⟩:=Wy h
  cases o with
  | exit id=>cases h1
  | ret=>cases h1
  | normal=>
  obtain ⟨o2,st2,e2,h2⟩:=Wy h1
  have hr:Ff ps sl0 (λst k=>B2 C cl yh aq st k) (λst k=>B2 C cl yh body st k) x (H,none,s)=some ((Al o2).isNone,((R7 H.length st2).hp,Al o2,st2.s)):=by
   simp only [Ff]
   rw [if_pos hx,AU e1]
   dsimp only
   rw [AU e2]
  cases o2 with
  | normal=>
   obtain ⟨H',pend,s',h3,h4⟩:=Ts xs _ _ h2
   refine ⟨H',pend,s',?_,h4⟩
   simp only [Q3,hr]
   exact h3
  | exit id=>exact ⟨_,_,_,by simp only [Q3,hr];rfl,h2⟩
  | ret=>exact ⟨_,_,_,by simp only [Q3,hr];rfl,h2⟩
theorem Ad6 {n n0:Nat} {g:Operand} {ps:Array Tmp} {aq body:Code} {k:Out->St σ->Option R} {Q:Exit->Act->World->Prop} (A:Ask C I cl yh yv) (hyv:Γ.yv=yv) (has:WP C I cl yh yv aq) (hbd:WP C I cl yh yv body)
  (h:Nb C cl (opnd C st.sl g) st (λsl0=>Ff ps sl0 (λst k=>B2 C cl yh aq st k) (λst k=>B2 C cl yh body st k)) (λsl0=>V3 ps sl0 (λst k=>B2 C cl yh aq st k) (λst k=>B2 C cl yh body st k)) k=some r) (S:SI C I Γ Φ st a.tmps w) (hM:Mk n0 Γ Φ w a.defers) (hP:Ay5 C I n0 Γ Φ st.hp w k r Q) :
  (Code.rangeFunc g ps aq body).wpIn (E5 none) n C.P Q a w:=by
 have hvn:=(S.opnd g).2
 have hv:=(S.opnd g).1
 unfold Nb at h
 split at h
 case h_2=>cases h
 rename_i f first caps hra
 obtain ⟨FA,FB,hFV,hcA,hcB,hnf⟩:=Lp hra hv
 have hnd:=To st.hp (B8 (first++caps))
 have hsub:=BU st.hp (B8 (first++caps))
 have hlt:∀ b∈Z8 st.hp (B8 (first++caps)),b<st.hp.length:=BT st.hp (B8 (first++caps)) (· < st.hp.length) (λb hb c hc=>by
  have e:st.hp.getD b .dead=st.hp[b]:=by rw [List.getD_eq_getElem?_getD,List.getElem?_eq_getElem hb];rfl
  rw [e] at hc
  exact S.hr.nms b hb c hc) (λc hc=>hvn c (hnf c hc))
 generalize Z8 st.hp (B8 (first++caps))=ns at *
 split at h
 ·rename_i pf hS
  unfold SU at h
  split at h
  case isFalse=>cases h
  rename_i hcond
  rw [Bool.and_eq_true] at hcond
  split at h
  case h_2=>cases h
  rename_i cL L hL
  obtain ⟨rfl,h⟩:=B5 h
  obtain ⟨H',pend,s',h1,h2⟩:=Ts L _ _ h
  refine Yj A A.hX.s hyv has hbd hra hnd hsub hlt ?_ S hM hP
  unfold Pc
  rw [if_pos hcond.1]
  have hbx:(ns.map λb=>(st.hp.getD b .dead).rn (F0 ns)).all Jl=true:=by
   rw [List.all_map,List.all_eq_true]
   intro b hb
   have:=List.all_eq_true.1 hcond.2 b hb
   simp only [Function.comp]
   generalize st.hp.getD b .dead=x at this
   cases x<;>simp_all [Jl,Blk.rn]
  have e:clS C (List Blk × Option Out × σ) (Ff ps (I3 (ns++X1 C st.hp 0) st.sl) (λst k=>B2 C cl yh aq st k) (λst k=>B2 C cl yh body st k)) f (rnL (F0 ns) first++PV.yd::rnL (F0 ns) caps) (ns.map λb=>(st.hp.getD b .dead).rn (F0 ns)) (J7 ns st.hp,none,st.s)=some (.tup [],(ns.map λb=>(st.hp.getD b .dead).rn (F0 ns)).map Fs,(H',pend,s')):=by
   simp only [clS,hS]
   rw [if_pos hbx,hL]
   simp only [h1]
  rw [e]
  exact h2
 ·exact Yj A A.hC hyv has hbd hra hnd hsub hlt h S hM hP
end
section
variable {σ R : Type} {r : R} {C : Cfg} {I : σ -> (Nat -> Prop) -> (Nat -> Prop) -> World -> Prop} {Γ : Ctx} {Φ : Nat -> Prop} {st : St σ} {a : Act} {w : World} {cl : D5} {yh : Yh σ} {yv : Value} {o : Oper} {H : List Blk}
theorem ZF (A:Ask C I cl yh yv) (hm:C.P.follows .mixedOrders=true):∀ (c:Code) {ro:Option Nat} {n n0:Nat} {rf:Bool} {R:Type} {r:R} {Γ:Ctx} {Φ:Nat->Prop} {st:St σ} {a:Act} {w:World} {k:Out->St σ->Option R} {Q:Exit->Act->World->Prop},
  (rf=true->ro=none)->O7 C rf c=true->Γ.yv=yv->B2 C cl yh c st k=some r->SI C I Γ Φ st a.tmps w->Mk n0 Γ Φ w a.defers->Ay5 C I n0 Γ Φ st.hp w k r Q->c.wpIn (E5 ro) n C.P Q a w:=by
 intro c
 induction c with
 | skip=>intro ro n n0 rf R r Γ Φ st a w k Q hrf hok hyv h S hM hP;exact wpIn_skip (hP .normal st a w Γ Φ h (Stp.refl S.hr) S hM)
 | label l=>intro ro n n0 rf R r Γ Φ st a w k Q hrf hok hyv h S hM hP;exact wpIn_label (hP .normal st a w Γ Φ h (Stp.refl S.hr) S hM)
 | region id ops d=>
  intro ro n n0 rf R r Γ Φ st a w k Q hrf hok hyv h S hM hP
  cases d with
  | false=>
   have h:Bk C cl yh ops ops.toList st (λst'=>k .normal (Oe (C.keepR id) st.hp.length st'))=some r:=by
    simp only [B2,TB] at h
    split at h
    ·exact h
    ·cases h
   refine wpIn_region_list (GQ A ops.toList hyv h S ?_)
   intro st' a' w' Γ' Φ' h1 h2 h3 h4
   obtain ⟨Γ2,S2,hs2⟩:=Ll A.hI h3 h2 (C.keepR id) (Nat.le_refl _)
   exact hP .normal _ a' w' Γ2 Φ' h1 hs2 S2 (by rw [h4];exact hM.step hs2)
  | true=>
   simp only [O7,Bool.not_true,Bool.false_or] at hok
   refine A80 A hm hok hyv h S ?_
   intro st' a' w' Γ' Φ' h1 h2 h3 h4
   obtain ⟨Γ2,S2,hs2⟩:=Ll A.hI h3 h2 (C.keepR id) (Nat.le_refl _)
   exact hP .normal _ a' w' Γ2 Φ' h1 hs2 S2 (by rw [h4];exact hM.step hs2)
 | seq x y ihx ihy=>
  intro ro n n0 rf R r Γ Φ st a w k Q hrf hok hyv h S hM hP
  simp only [O7,Bool.and_eq_true] at hok
  refine wpIn_seq (ihx hrf hok.1 hyv h S hM ?_)
  intro o st' a' w' Γ' Φ' h1 h2 h3 h4
  cases o with
  | normal=>exact ihy hrf hok.2 (h2.yv.trans hyv) h1 h3 h4 λo2 st2 a2 w2 Γ2 Φ2 k1 k2 k3 k4=>hP o2 st2 a2 w2 Γ2 Φ2 k1 (h2.trans k2) k3 k4
  | exit id=>exact hP (.exit id) st' a' w' Γ' Φ' h1 h2 h3 h4
  | ret=>exact hP .ret st' a' w' Γ' Φ' h1 h2 h3 h4
 | cond c x y ihx ihy=>
  intro ro n n0 rf R r Γ Φ st a w k Q hrf hok hyv h S hM hP
  simp only [O7,Bool.and_eq_true] at hok
  simp only [B2] at h
  split at h
  ·rename_i t hc
   have hv:=(S.opnd c).1
   rw [hc] at hv
   have hb:=hv.inv_bool
   cases t with
   | true=>exact wpIn_cond hb (ihx hrf hok.1 hyv h S hM hP)
   | false=>exact wpIn_cond hb (ihy hrf hok.2 hyv h S hM hP)
  ·cases h
 | block id x ih=>
  intro ro n n0 rf R r Γ Φ st a w k Q hrf hok hyv h S hM hP
  refine wpIn_block (ih hrf hok hyv h S hM ?_)
  intro o st' a' w' Γ' Φ' h1 h2 h3 h4
  cases o with
  | normal=>exact hP .normal st' a' w' Γ' Φ' h1 h2 h3 h4
  | exit j=>
   simp only [Out.exit',Exit.inBlock]
   dsimp only at h1
   split at h1
   ·rename_i e;rw [if_pos e];exact hP .normal st' a' w' Γ' Φ' h1 h2 h3 h4
   ·rename_i e;rw [if_neg e];exact hP (.exit j) st' a' w' Γ' Φ' h1 h2 h3 h4
  | ret=>exact hP .ret st' a' w' Γ' Φ' h1 h2 h3 h4
 | loop x ih=>
  intro ro n n0 rf R r Γ Φ st a w k Q hrf hok hyv h S hM hP
  simp only [B2] at h
  refine VH (λm a' w'=>∃ st' Γ' Φ',D6 st.hp.length (C.keep (JT x)) (λst k=>B2 C cl yh x st k) m st' k=some r/\Stp C Γ st.hp w Φ Γ' st'.hp w' Φ'/\SI C I Γ' Φ' st' a'.tmps w'/\Mk n0 Γ' Φ' w' a'.defers) C.lf ⟨_,Γ,Φ,h,by rw [Co];exact Stp.refl S.hr,Cn S _,hM⟩ ?_
  rintro m a1 w1 ⟨st1,Γ1,Φ1,h1,h2,h3,h4⟩
  cases m with
  | zero=>simp [D6] at h1
  | succ m=>
   simp only [D6] at h1
   refine ih hrf hok (h2.yv.trans hyv) h1 h3 h4 ?_
   intro o st' a' w' Γ' Φ' k1 k2 k3 k4
   cases o with
   | normal=>
    obtain ⟨Γ2,S2,hs2,hsub⟩:=NA A.hI k3 (h2.trans k2)
    have hMt:=Mk.sub k4 hsub
    exact ⟨m,Nat.lt_succ_self m,_,Γ2,Φ',k1,by rw [Co];exact hs2,Cn S2 _,hMt⟩
   | exit j=>exact hP (.exit j) _ a' w' Γ' Φ' k1 (by rw [Co];exact h2.trans k2) (Cn k3 _) k4
   | ret=>exact hP .ret _ a' w' Γ' Φ' k1 (by rw [Co];exact h2.trans k2) (Cn k3 _) k4
 | exit id=>intro ro n n0 rf R r Γ Φ st a w k Q hrf hok hyv h S hM hP;exact wpIn_exit (hP (.exit id) _ a w Γ Φ h (by rw [Co];exact Stp.refl S.hr) (Cn S _) hM)
 | ret=>intro ro n n0 rf R r Γ Φ st a w k Q hrf hok hyv h S hM hP;exact wpIn_ret (hP .ret _ a w Γ Φ h (by rw [Co];exact Stp.refl S.hr) (Cn S _) hM)
 | scope x ih=>
  intro ro n n0 rf R r Γ Φ st a w k Q hrf hok hyv h S hM hP
  refine NG (ih (Q:=λe a w=>(∀ l,e≠.goto l)/\Q e a w) hrf hok hyv h S hM ?_)
  intro o st' a' w' Γ' Φ' h1 h2 h3 h4
  exact ⟨λl=>by cases o<;>simp [Out.exit'],hP o st' a' w' Γ' Φ' h1 h2 h3 h4⟩
 | rangeFunc g ps x y ihx ihy=>
  intro ro n n0 rf R r Γ Φ st a w k Q hrf hok hyv h S hM hP
  simp only [O7,Bool.and_eq_true] at hok
  obtain ⟨⟨rfl,hx⟩,hy⟩:=hok
  obtain rfl:=hrf rfl
  simp only [B2] at h
  exact Ad6 A hyv (fun {R r ro n n0 Γ Φ st a w k Q} h1 h2 h3 h4 h5=>ihx (rf:=false) (λh=>by cases h) hx h1 h2 h3 h4 h5) (fun {R r ro n n0 Γ Φ st a w k Q} h1 h2 h3 h4 h5=>ihy (rf:=false) (λh=>by cases h) hy h1 h2 h3 h4 h5) h S hM hP
 | _=>intro ro n n0 rf R r Γ Φ st a w k Q hrf hok hyv h S hM hP;simp [B2] at h
end
section
variable {σ R : Type} {r : R} {C : Cfg} {I : σ -> (Nat -> Prop) -> (Nat -> Prop) -> World -> Prop} {Γ : Ctx} {Φ : Nat -> Prop} {st : St σ} {a : Act} {w : World} {cl : D5} {yh : Yh σ} {yv : Value} {o : Oper} {H : List Blk}
def Sg (tmps:Array Value):ResultVar->Sem Value
 | .tmp t=>pure (tmps.getD t undef)
 | .cell a t=>do loadVar t (<-asAddr (tmps.getD a undef))
theorem TM (fn:Func) (tmps:Array Value):results fn tmps=(fn.results.toList.mapM (Sg tmps) >>= λl=>pure (if h:l.length=1 then l[0] else .tuple l.toArray)):=by
 unfold results
 have:∀ (rs:Array ResultVar),(rs.mapM (Sg tmps) >>= λvs=>(pure (if h:vs.size=1 then vs[0] else .tuple vs):Sem Value))=(rs.toList.mapM (Sg tmps) >>= λl=>pure (if h:l.length=1 then l[0] else .tuple l.toArray)):=by
  intro rs
  rw [Array.mapM_eq_mapM_toList,map_eq_pure_bind,bind_assoc]
  congr 1
 exact this fn.results
theorem AW (S:SR Γ H w st.sl a.tmps) (t:Nat):VP Γ (A2 H) w (st.sl.getD t (.tup [])) (a.tmps.getD t undef)/\∀ c∈(st.sl.getD t (.tup [])).nms,c<H.length:=by
 by_cases h:t<st.sl.length
 ·obtain ⟨V,e,k⟩:=S.slot t h
  have hn:∀ c∈(st.sl[t]).nms,c<H.length:=λc hc=>S.nms c (B6.2 ⟨t,h,hc⟩)
  simp_all
 ·have h1:st.sl.getD t (.tup []) = .tup []:=by rw [List.getD_eq_getElem?_getD,List.getElem?_eq_none (Nat.le_of_not_lt h)];rfl
  have h2:a.tmps.getD t undef=undef:=by rw [Array.getD_eq_getD_getElem?,Array.getElem?_eq_none (by rw [S.size];exact Nat.le_of_not_lt h)];rfl
  rw [h1,h2]
  exact ⟨Z5,by simp [PV.nms,B8]⟩
def LR (Γ:Ctx) (sh:Nat->Option Shp) (w:World):List PV->List Value->Prop
 | [],[]=>True
 | v::r,V::q=>VP Γ sh w v V/\LR Γ sh w r q
 | _,_=>False
theorem LR.len {sh:Nat->Option Shp}:∀ {l:List PV} {A:List Value},LR Γ sh w l A->A.length=l.length
 | [],[],_=>rfl
 | v::r,V::q,h=>by simp [LR.len h.2]
 | [],_::_,h=>h.elim
 | _::_,[],h=>h.elim
theorem LR.CR {sh:Nat->Option Shp}:∀ {l:List PV} {A:List Value},LR Γ sh w l A->∀ j (h:j<l.length),∃ U,A[j]? = some U/\VP Γ sh w (l[j]) U
 | [],[],_,j,h=>by simp at h
 | v::r,V::q,h,0,_=>⟨V,rfl,h.1⟩
 | v::r,V::q,h,j+1,hj=>by
  obtain ⟨U,e,k⟩:=LR.CR h.2 j (by simpa using hj)
  grind
 | [],_::_,h,_,_=>h.elim
 | _::_,[],h,_,_=>h.elim
theorem A42 {t:TypeId} {A V:Value} {w':World} (h:(Instr.loadAt t A).run C.P w' = .ok V w'):(do loadVar t (<-asAddr A):Sem Value).run C.P w' = .ok V w':=by
 simp only [Instr.loadAt] at h
 unfold Instr.sureAddr at h
 split at h
 ·exact h
 simp_all
theorem Nc (hH:HR Γ H w) (S:SR Γ H w st.sl a.tmps):∀ (rs:List ResultVar) {k:List PV->Option R},Ud C st.sl H rs k=some r->
  ∃ vs Vs,k vs=some r/\(rs.mapM (Sg a.tmps)).run C.P w = .ok Vs w/\LR Γ (A2 H) w vs Vs/\∀ c∈B8 vs,c<H.length
 | [],k,h=>⟨[],[],h,by simp,trivial,by simp [B8]⟩
 | .tmp t::rest,k,h=>by
  simp only [Ud] at h
  obtain ⟨vs,Vs,h1,h2,h3,h4⟩:=Nc hH S rest h
  obtain ⟨g1,g2⟩:=AW S t
  refine ⟨_,a.tmps.getD t undef::Vs,h1,?_,⟨g1,h3⟩,λc hc=>?_⟩
  ·rw [List.mapM_cons]
   simp only [Sg,Sem.run_bind,Sem.run_pure,Result.andThen,h2]
  ·simp only [B8,List.mem_append] at hc
   grind
 | .cell x t::rest,k,h=>by
  simp only [Ud] at h
  obtain ⟨g1,g2⟩:=AW S x
  obtain ⟨v,hk,hn,V,hv,hq⟩:=Th hH h g1
  obtain ⟨vs,Vs,h1,h2,h3,h4⟩:=Nc hH S rest hk
  refine ⟨_,V::Vs,h1,?_,⟨hv,h3⟩,λc hc=>?_⟩
  ·rw [List.mapM_cons]
   have:=A42 (hq w (Ext.refl w))
   rw [show Sg a.tmps (.cell x t)=(do loadVar t (<-asAddr (a.tmps.getD x undef)):Sem Value) from rfl]
   rw [Sem.run_bind,this]
   simp_all
  ·simp only [B8,List.mem_append] at hc
   grind
theorem KV {vs:List PV} {c:Nat} (h:c∈(Y6 vs).nms):c∈B8 vs:=by
 unfold Y6 at h
 split at h
 ·simp [B8,h]
 ·exact h
theorem A60 {vs:List PV} {Vs:List Value} (h:LR Γ (A2 H) w vs Vs):VP Γ (A2 H) w (Y6 vs) (if h:Vs.length=1 then Vs[0] else .tuple Vs.toArray):=by
 have hl:=h.len
 unfold Y6
 split
 ·rename_i v
  cases Vs with
  | nil=>simp at hl
  | cons V q=>
   cases q with
   | nil=>exact h.1
   | cons _ _=>simp at hl
 ·rename_i hne
  have:Vs.length≠1:=by
   intro e
   rw [e] at hl
   match vs,hl with
   | [v],_=>exact hne v rfl
  rw [dif_neg this]
  refine VP.mk_tup (by simpa using hl) λj hj=>?_
  obtain ⟨U,e,k⟩:=h.CR j hj
  grind
def Bl (C:Cfg):Prop:=∀ f fn c,C.okf f=true->C.P.funcs[f]? = some fn->fn.body=some c->Am2 C c=true/\(fn.name == "runtime.NumGoroutine")=false
theorem Jd {f:Nat} {fn:Func} {c:Code} {Vs:Array Value} (hf:C.P.funcs[f]? = some fn) (hb:fn.body=some c) (hn:(fn.name == "runtime.NumGoroutine")=false):(callFunc f Vs).run C.P w = .ok (.enter f Vs) w:=by
 have hn':¬ fn.name = "runtime.NumGoroutine":=by simpa using hn
 simp [callFunc,hf,hb,hn',Result.andThen]
theorem Az0 {args:List PV} {Vs:Array Value} {n:Nat} (hc:CR Γ (A2 H) w args Vs) (hn:∀ c∈B8 args,c<H.length) :
  SR Γ H w (args++List.replicate (n-args.length) (.tup [])) (Vs++Array.replicate (n-Vs.size) undef):=by
 have h2:CR Γ (A2 H) w (List.replicate (n-args.length) (.tup [])) (Array.replicate (n-Vs.size) undef):=⟨by simp [hc.1],λj hj=>by
  simp only [List.length_replicate] at hj
  refine ⟨undef,by rw [hc.1];simp [hj],?_⟩
  simp only [List.getElem_replicate]
  exact Z5⟩
 have h3:=hc.append h2
 refine ⟨h3.1,λc hcc=>?_,h3.2⟩
 rw [K4,List.mem_append] at hcc
 rcases hcc with hcc | hcc
 ·exact hn c hcc
 ·obtain ⟨j,hj,hcc⟩:=B6.1 hcc
  simp [PV.nms,B8] at hcc
theorem Stp.put {Γ0 Γ':Ctx} {H0 H':List Blk} {w0 w':World} {Φ0 Φ':Nat->Prop} {D:Nat} {ob:Obj} (h:Stp C Γ0 H0 w0 Φ0 Γ' H' w' Φ') (hD:w0.heap.size<=D) (hO:Off Γ' Φ' w' D):Stp C Γ0 H0 w0 Φ0 Γ' H' (w'.putObj D ob) Φ':=by
 refine ⟨h.os,h.tape,h.output,by rw [World.putObj_size];exact h.size,h.sub,h.stnew,h.own,h.foot,λg hg hn hp=>?_,h.yv,h.len,λb hb hf=>?_⟩
 ·rw [World.putObj_heap_other (by omega)];exact h.frame g hg hn hp
 ·obtain ⟨k1,k2,k3⟩:=h.keep b hb hf
  refine ⟨k1,k2,λg hg=>?_⟩
  rw [<-k3 g hg]
  refine D1 (World.putObj_heap_other ?_)
  rintro rfl
  exact hO.2.2.1 b (k1.trans hg)
theorem XG {F:Fence} {n:Nat} {fn:Func} {Rr:Ending->World->Prop} {Γ0 Γ':Ctx} {H0:List Blk} {w0:World} {Φ0 Φ':Nat->Prop} {st':St σ} {tmps:Array Value} (hI:HI I)
  (hk:∀ w',SI C I Γ' Φ' st' tmps w'->Stp C Γ0 H0 w0 Φ0 Γ' st'.hp w' Φ'->∃ V,(results fn tmps).run C.P w' = .ok V w'/\Rr (.returned V) w') :
  ∀ (Ds:List Nat) (w:World),Ds.Nodup->(∀ D∈Ds,w0.heap.size<=D/\Off Γ' Φ' w D/\w.heap[D]? = some (.deferred (some [])))->SI C I Γ' Φ' st' tmps w->Stp C Γ0 H0 w0 Φ0 Γ' st'.hp w Φ'->LeavesInM F n C.P fn tmps Rr (Ds.map mkD) .returning w
 | [],w,_,_,S,h=>hk w S h
 | D::Ds,w,hn,hD,S,h=>by
  obtain ⟨h1,h2,h3⟩:=hD D (by simp)
  refine ⟨by simp,.inl ⟨D,w.putObj D (.deferred none),rfl,run_takeDeferred h3,?_⟩⟩
  have hn':=List.nodup_cons.1 hn
  refine XG hI hk Ds _ hn'.2 (λE hE=>?_) (S.offW hI (Nh.put h2)) (h.put h1 h2)
  obtain ⟨k1,k2,k3⟩:=hD E (by simp [hE])
  refine ⟨k1,k2.put,(World.putObj_heap_other ?_).trans k3⟩
  grind
theorem Fw (hX:XOK C) (hO:Bl C) (hm:C.P.follows .mixedOrders=true):∀ d,X8 C (evC C d)
 | 0=>λσ I yh yv hI hy g args H s ret Hc s' h=>by simp [evC] at h
 | d+1=>λσ I yh yv hI hy g args H s ret Hc s' h Γ Φ w Vs hyv hH hg hi hdis hc hn=>by
  have ih:=Fw hX hO hm d
  simp only [evC] at h
  split at h
  ·rename_i fn hok hf
   split at h
   ·rename_i c hb
    obtain ⟨hcode,hname⟩:=hO g fn c hok hf hb
    intro ro n o a next Q hnext
    rw [Jd hf hb hname]
    simp only [Oper.uponIn_enter]
    refine ⟨λh=>(by simp [E5,Fence.wide] at h),?_⟩
    have key:CallsIn Fence.wide (n-1) C.P g Vs w λe w''=>∃ V,e = .returned V/\X7 C I Γ H w Φ ret Hc s' V w'':=by
     refine callsIn_of_wp_marks hf hb trivial ?_
     have S0:SI C I Γ Φ { sl:=args++List.replicate (fn.ntmps-args.length) (.tup []),hp:=H,s:=s } (Vs++Array.replicate (fn.ntmps-Vs.size) undef) w:=⟨hH,Az0 hc hn,hg,hi,hdis⟩
     refine ZF (ro:=none) (rf:=true) (n:=n-1) (n0:=w.heap.size) (a:={ tmps:=Vs++Array.replicate (fn.ntmps-Vs.size) undef,defers:=[] }) ⟨hI,ih,hX,hy⟩ hm c (λ_=>rfl) hcode hyv h S0 (Mk.nil (Nat.le_refl _)) ?_
     intro o st' a' w' Γ' Φ' k1 k2 k3 ⟨_,Ds,k4,k5,k6⟩
     suffices fin:∀ w',SI C I Γ' Φ' st' a'.tmps w'->Stp C Γ H w Φ Γ' st'.hp w' Φ'->Ud C st'.sl st'.hp fn.results.toList (λvs=>some (Y6 vs,st'.hp,st'.s))=some (ret,Hc,s')->∃ V,(results fn a'.tmps).run C.P w' = .ok V w'/\∃ V',Ending.returned V = .returned V'/\X7 C I Γ H w Φ ret Hc s' V' w' by
      have key2:Ud C st'.sl st'.hp fn.results.toList (λvs=>some (Y6 vs,st'.hp,st'.s))=some (ret,Hc,s')->LeavesInM (E5 none) (n-1) C.P fn a'.tmps (λe w''=>∃ V,e = .returned V/\X7 C I Γ H w Φ ret Hc s' V w'') a'.defers .returning w':=λh=>by
       rw [k4]
       exact XG hI (λw' a b=>fin w' a b h) Ds w' k5 k6 k3 k2
      cases o with
      | normal=>exact key2 k1
      | ret=>exact key2 k1
      | exit id=>cases k1
     intro w' k3 k2
     have fin:∀ (h:Ud C st'.sl st'.hp fn.results.toList (λvs=>some (Y6 vs,st'.hp,st'.s))=some (ret,Hc,s')),∃ V,(results fn a'.tmps).run C.P w' = .ok V w'/\∃ V',Ending.returned V = .returned V'/\X7 C I Γ H w Φ ret Hc s' V' w':=λh=>by
      obtain ⟨vs,Us,h1,h2,h3,h4⟩:=Nc k3.hr k3.sr _ h
      simp only [Option.some.injEq,Prod.mk.injEq] at h1
      obtain ⟨rfl,rfl,rfl⟩:=h1
      refine ⟨_,?_,_,rfl,Γ',Φ',k2,k3.hr,A60 h3,λc hc=>h4 c (KV hc),k3.inv,k3.dis⟩
      rw [TM,Sem.run_bind,h2]
      rfl
     omega
    have key':CallsIn (E5 ro) (n-1) C.P g Vs w λe w''=>∃ V,e = .returned V/\X7 C I Γ H w Φ ret Hc s' V w'':=key
    refine key'.mono ?_
    grind
   ·cases h
  ·cases h
end
end
end Go.Proofs.YtelhbgonncceeaaGreatDoor.E
