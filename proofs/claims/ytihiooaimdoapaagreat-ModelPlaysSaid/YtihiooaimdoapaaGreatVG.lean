/- ModelPlays: the given statement. -/
import Derived.ProofKit
import Derived.Test.YtihiooaimdoapaaGreatVF
set_option maxHeartbeats 2000000
noncomputable section
set_option linter.unusedVariables false
set_option linter.unusedSimpArgs false
namespace Go.Proofs.YtihiooaimdoapaaGreat
open Go.Bm
set_option maxRecDepth 1000000
set_option maxHeartbeats 0
def X_:dR:=⟨[(true,(.pair (.int .i64) (.pair (.int .i64) (.pair (.int .i64) (.int .i64))))),(false,(.cB (.cB (.pair (.int .u8) (.pair (.int .i64) (.int .i64)))))),(false,(.cB (.pair (.int .i64) (.pair (.int .u8) (.pair (.int .u8) (.pair (.int .u8) (.pair (.int .u8) (.pair (.int .i64) (.pair (.int .i64) (.int .i64))))))))))],[(false,.bool)],[],[(0,R0),(1,R1),(2,R2),(3,R3),(4,R4),(5,R5),(6,R6),(7,R7),(8,R8),(9,R9),(10,CF),(11,FE),(12,xp),(13,uL),(14,uK),(15,wH),(16,rz),(17,D7),(18,CE)]⟩
def g.jz (v0:(((List Int)×(Bool×Unit))×Unit)) (v1:U13) (v2:Nat) (v3:U5→U1) (k:(U6→U1)) (s:U6):U1:=(br (bw s.1.1 (zN (len v0.1.1))) (gd (bf s.1.1) (gd (bl (nN s.1.1) (len v0.1.1)) (bd (aE v1.2.2.2.2.2.2.1 v2) (fun p0=>(gd (bf s.1.1) (gd (bl (nN s.1.1) (len p0)) (bd (aE v1.2.2.2.2.2.2.1 v2) (fun p1=>(br (aC (aj (nth 0 v0.1.1 (nN s.1.1)) (nth 0 p1 (nN s.1.1)))) (v3 ((false,()),((),((),((),()))))) (k (((ae .i64 s.1.1 1),()),((),((),((),())))))))))))))) (v3 ((true,()),((),((),((),()))))))
def g.jy (v0:(((List Int)×(Bool×Unit))×Unit)) (v1:U5→U1) (k:(U6→U1)) (s:U6):U1:=(br (bw s.1.1 (zN (len v0.1.1))) (gd (bf s.1.1) (gd (bl (nN s.1.1) (len v0.1.1)) none)) (v1 ((true,()),((),((),((),()))))))
def g.gf (v0:((Int×Unit)×Unit)) (v1:Nat) (v2:U13) (v3:Nat) (v4:U8) (v5:U2) (v6:TV) (v7:U3→U1) (v8:U3) (k:(U6→U1)) (s:U6):U1:=(br (bw s.1.1 4) (gd (bf v0.1.1) (gd (bl (nN v0.1.1) 4) (gd (bf s.1.1) (gd (bl (nN s.1.1) 4) (bd (g.fy v1 (nth 0 (nth [0,0,0,0] (nth bJ v2.2.1 v3).2.2.2.2.2.2.1 (nN v0.1.1)) (nN s.1.1)) v4.2.1 v4.2.2.1 v5.2.1 v5.2.2.1 v5.2.2.2.1 v5.2.2.2.2.1 v5.2.2.2.2.2.1 v5.2.2.2.2.2.2.1 v5.2.2.2.2.2.2.2.1 v5.2.2.2.2.2.2.2.2.1 v5.2.2.2.2.2.2.2.2.2.1) (fun p0=>(gd (bf v0.1.1) (gd (bl (nN v0.1.1) 4) (gd (bf s.1.1) (gd (bl (nN s.1.1) 4) (bd (g.cN v3 (nth 0 (nth [0,0,0,0] (nth bJ v2.2.1 v3).2.2.2.2.2.2.1 (nN v0.1.1)) (nN s.1.1)) v2.2.1 v6.2.2.1 v6.2.2.2.1 v2.2.2.1 v2.2.2.2.1 v2.2.2.2.2.1 v2.2.2.2.2.2.1 v2.2.2.2.2.2.2.1) (fun p1=>(opt p1.1.1 (jn (fun (k2:U5→_)=>(br (aC (aj (zN (len p0.1.1)) 0)) (k2 ((false,()),((),((),((),()))))) (loop (g.jy p0 k2) ((0,()),((),((),((),()))))))) (fun (s3:U5)=>(br (aC (qx p0.1.2.1 p1.1.2.1)) (some ((false,()),(v4.2.1,(v4.2.2.1,(v5.2.1,(v5.2.2.1,(v5.2.2.2.1,(v5.2.2.2.2.1,(v5.2.2.2.2.2.1,(v5.2.2.2.2.2.2.1,(v5.2.2.2.2.2.2.2.1,(v5.2.2.2.2.2.2.2.2.1,(v5.2.2.2.2.2.2.2.2.2.1,(v2.2.1,(v6.2.2.1,(v6.2.2.2.1,v2.2.2)))))))))))))))) (br (aC s3.1.1) (some ((false,()),(v4.2.1,(v4.2.2.1,(v5.2.1,(v5.2.2.1,(v5.2.2.2.1,(v5.2.2.2.2.1,(v5.2.2.2.2.2.1,(v5.2.2.2.2.2.2.1,(v5.2.2.2.2.2.2.2.1,(v5.2.2.2.2.2.2.2.2.1,(v5.2.2.2.2.2.2.2.2.2.1,(v2.2.1,(v6.2.2.1,(v6.2.2.2.1,v2.2.2)))))))))))))))) (k (((ae .i64 s.1.1 1),()),((),((),((),()))))))))) (fun p4=>(jn (fun (k5:U5→_)=>(bd (aE v2.2.2.2.2.2.2.1 p4) (fun p6=>(br (aC (aj (zN (len p0.1.1)) (zN (len p6)))) (k5 ((false,()),((),((),((),()))))) (loop (g.jz p0 v2 p4 k5) ((0,()),((),((),((),()))))))))) (fun (s7:U5)=>(br (aC (qx p0.1.2.1 p1.1.2.1)) (some ((false,()),(v4.2.1,(v4.2.2.1,(v5.2.1,(v5.2.2.1,(v5.2.2.2.1,(v5.2.2.2.2.1,(v5.2.2.2.2.2.1,(v5.2.2.2.2.2.2.1,(v5.2.2.2.2.2.2.2.1,(v5.2.2.2.2.2.2.2.2.1,(v5.2.2.2.2.2.2.2.2.2.1,(v2.2.1,(v6.2.2.1,(v6.2.2.2.1,v2.2.2)))))))))))))))) (br (aC s7.1.1) (some ((false,()),(v4.2.1,(v4.2.2.1,(v5.2.1,(v5.2.2.1,(v5.2.2.2.1,(v5.2.2.2.2.1,(v5.2.2.2.2.2.1,(v5.2.2.2.2.2.2.1,(v5.2.2.2.2.2.2.2.1,(v5.2.2.2.2.2.2.2.2.1,(v5.2.2.2.2.2.2.2.2.2.1,(v2.2.1,(v6.2.2.1,(v6.2.2.2.1,v2.2.2)))))))))))))))) (k (((ae .i64 s.1.1 1),()),((),((),((),()))))))))))))))))))))))) (v7 (((ae .i64 v8.1.1 1),()),((),((),((),(v5.2.1,(v5.2.2.1,(v5.2.2.2.1,(v5.2.2.2.2.1,(v5.2.2.2.2.2.1,(v5.2.2.2.2.2.2.1,(v5.2.2.2.2.2.2.2.1,(v5.2.2.2.2.2.2.2.2.1,(v5.2.2.2.2.2.2.2.2.2.1,v2.2)))))))))))))))
def g.f_ (v0:(((Int×U4)×Unit)×Unit)) (v1:Nat) (v2:U8) (v3:U2) (v4:U13) (v5:Nat) (v6:TV) (v7:((Int×Unit)×Unit)) (v8:U3→U1) (v9:U3) (k:(U6→U1)) (s:U6):U1:=(br (bw s.1.1 v0.1.1.1) (bd (g.kf v1 s.1.1 v2.2.1 v2.2.2.1 v3.2.1 v3.2.2.1 v3.2.2.2.1 v3.2.2.2.2.1 v3.2.2.2.2.2.1 v3.2.2.2.2.2.2.1 v3.2.2.2.2.2.2.2.1 v3.2.2.2.2.2.2.2.2.1 v3.2.2.2.2.2.2.2.2.2.1) (fun p0=>(opt (nth bJ v4.2.1 v5).2.2.1 none (fun p1=>(opt (nth (none,(none,none)) v6.2.2.1 p1).1 none (fun p2=>(bd (aE v4.2.2.1 p2) (fun p3=>(gd (bf s.1.1) (gd (bl (nN s.1.1) (len p3)) (bd (aE v4.2.2.1 p2) (fun p4=>(br (aC (j7 (aj p0.1.1.1 (nth (0,(0,(0,0))) p4 (nN s.1.1)).1) (j7 (aj p0.1.1.2.1 (nth (0,(0,(0,0))) p4 (nN s.1.1)).2.1) (j7 (aj p0.1.1.2.2.1 (nth (0,(0,(0,0))) p4 (nN s.1.1)).2.2.1) (j7 (aj p0.1.1.2.2.2 (nth (0,(0,(0,0))) p4 (nN s.1.1)).2.2.2) true))))) (some ((false,()),(v2.2.1,(v2.2.2.1,(v3.2.1,(v3.2.2.1,(v3.2.2.2.1,(v3.2.2.2.2.1,(v3.2.2.2.2.2.1,(v3.2.2.2.2.2.2.1,(v3.2.2.2.2.2.2.2.1,(v3.2.2.2.2.2.2.2.2.1,(v3.2.2.2.2.2.2.2.2.2.1,(v4.2.1,(v6.2.2.1,(v6.2.2.2.1,v4.2.2)))))))))))))))) (bd (g.iH v1 s.1.1 v2.2.1 v2.2.2.1 v3.2.1 v3.2.2.1 v3.2.2.2.1 v3.2.2.2.2.1 v3.2.2.2.2.2.1 v3.2.2.2.2.2.2.1 v3.2.2.2.2.2.2.2.1 v3.2.2.2.2.2.2.2.2.1 v3.2.2.2.2.2.2.2.2.2.1) (fun p5=>(gd (bf s.1.1) (gd (bl (nN s.1.1) 8) (br (aC (aj p5.1.1 (nth 0 (nth bJ v4.2.1 v5).2.2.2.2.1 (nN s.1.1)))) (some ((false,()),(v2.2.1,(v2.2.2.1,(v3.2.1,(v3.2.2.1,(v3.2.2.2.1,(v3.2.2.2.2.1,(v3.2.2.2.2.2.1,(v3.2.2.2.2.2.2.1,(v3.2.2.2.2.2.2.2.1,(v3.2.2.2.2.2.2.2.2.1,(v3.2.2.2.2.2.2.2.2.2.1,(v4.2.1,(v6.2.2.1,(v6.2.2.2.1,v4.2.2)))))))))))))))) (bd (g.jU v1 s.1.1 v2.2.1 v2.2.2.1 v3.2.1 v3.2.2.1 v3.2.2.2.1 v3.2.2.2.2.1 v3.2.2.2.2.2.1 v3.2.2.2.2.2.2.1 v3.2.2.2.2.2.2.2.1 v3.2.2.2.2.2.2.2.2.1 v3.2.2.2.2.2.2.2.2.2.1) (fun p6=>(gd (bf s.1.1) (gd (bl (nN s.1.1) 8) (br (aC (aj p6.1.1 (nth 0 (nth bJ v4.2.1 v5).2.2.2.2.2.1 (nN s.1.1)))) (some ((false,()),(v2.2.1,(v2.2.2.1,(v3.2.1,(v3.2.2.1,(v3.2.2.2.1,(v3.2.2.2.2.1,(v3.2.2.2.2.2.1,(v3.2.2.2.2.2.2.1,(v3.2.2.2.2.2.2.2.1,(v3.2.2.2.2.2.2.2.2.1,(v3.2.2.2.2.2.2.2.2.2.1,(v4.2.1,(v6.2.2.1,(v6.2.2.2.1,v4.2.2)))))))))))))))) (k (((ae .i64 s.1.1 1),()),((),((),((),())))))))))))))))))))))))))))) (loop (g.gf v7 v1 v4 v5 v2 v3 v6 v8 v9) ((0,()),((),((),((),()))))))
def g.jx (v0:(((List Int)×Unit)×Unit)) (v1:U13) (v2:Nat) (v3:((Int×Unit)×Unit)) (v4:U5→U1) (k:(U6→U1)) (s:U6):U1:=(br (bw s.1.1 (zN (len v0.1.1))) (gd (bf s.1.1) (gd (bl (nN s.1.1) (len v0.1.1)) (gd (bf s.1.1) (gd (bl (nN s.1.1) 4) (br (aC (aj (nth 0 v0.1.1 (nN s.1.1)) (nth 0 (nth [0,0,0,0] (nth bJ v1.2.1 v2).2.2.2.2.2.2.1 (nN v3.1.1)) (nN s.1.1)))) (v4 ((false,()),((),((),((),()))))) (k (((ae .i64 s.1.1 1),()),((),((),((),())))))))))) (v4 ((true,()),((),((),((),()))))))
def g.fZ (a2:(List (Int×sZ))) (v0:U8) (v1:TV) (v2:(((Int×U4)×Unit)×Unit)) (v3:Nat) (v4:Nat) (k:(U3→U1)) (s:U3):U1:=(jn (fun (k0:(Unit×U0)→_)=>(br (bw s.1.1 (zN (len a2))) (br (bw s.1.1 80) (k0 ((),((),((),((),()))))) (some ((true,()),(v0.2.1,(v0.2.2.1,(s.2.2.2.2.1,(s.2.2.2.2.2.1,(s.2.2.2.2.2.2.1,(s.2.2.2.2.2.2.2.1,(s.2.2.2.2.2.2.2.2.1,(s.2.2.2.2.2.2.2.2.2.1,(s.2.2.2.2.2.2.2.2.2.2.1,(s.2.2.2.2.2.2.2.2.2.2.2.1,(s.2.2.2.2.2.2.2.2.2.2.2.2.1,(s.2.2.2.2.2.2.2.2.2.2.2.2.2.1,(v1.2.2.1,(v1.2.2.2.1,s.2.2.2.2.2.2.2.2.2.2.2.2.2.2))))))))))))))))) (some ((true,()),(v0.2.1,(v0.2.2.1,(s.2.2.2.2.1,(s.2.2.2.2.2.1,(s.2.2.2.2.2.2.1,(s.2.2.2.2.2.2.2.1,(s.2.2.2.2.2.2.2.2.1,(s.2.2.2.2.2.2.2.2.2.1,(s.2.2.2.2.2.2.2.2.2.2.1,(s.2.2.2.2.2.2.2.2.2.2.2.1,(s.2.2.2.2.2.2.2.2.2.2.2.2.1,(s.2.2.2.2.2.2.2.2.2.2.2.2.2.1,(v1.2.2.1,(v1.2.2.2.1,s.2.2.2.2.2.2.2.2.2.2.2.2.2.2)))))))))))))))))) (fun (s1:(Unit×U0))=>(gd (bf s.1.1) (gd (bl (nN s.1.1) (len a2)) (bd (g.eK (nth (0,(0,(0,(0,(0,(0,(0,0))))))) a2 (nN s.1.1)).1 (v2.1.1.1,(v2.1.1.2.1,(v2.1.1.2.2.1,v2.1.1.2.2.2)))) (fun p2=>(gd (bf s.1.1) (gd (bl (nN s.1.1) (len a2)) (bd (g.de v3 p2.1.1 ((nth (0,(0,(0,(0,(0,(0,(0,0))))))) a2 (nN s.1.1)).2.1,((nth (0,(0,(0,(0,(0,(0,(0,0))))))) a2 (nN s.1.1)).2.2.1,((nth (0,(0,(0,(0,(0,(0,(0,0))))))) a2 (nN s.1.1)).2.2.2.1,((nth (0,(0,(0,(0,(0,(0,(0,0))))))) a2 (nN s.1.1)).2.2.2.2.1,((nth (0,(0,(0,(0,(0,(0,(0,0))))))) a2 (nN s.1.1)).2.2.2.2.2.1,((nth (0,(0,(0,(0,(0,(0,(0,0))))))) a2 (nN s.1.1)).2.2.2.2.2.2.1,(nth (0,(0,(0,(0,(0,(0,(0,0))))))) a2 (nN s.1.1)).2.2.2.2.2.2.2)))))) v0.2.1 v0.2.2.1 s.2.2.2.2.1 s.2.2.2.2.2.1 s.2.2.2.2.2.2.1 s.2.2.2.2.2.2.2.1 s.2.2.2.2.2.2.2.2.1 s.2.2.2.2.2.2.2.2.2.1 s.2.2.2.2.2.2.2.2.2.2.1 s.2.2.2.2.2.2.2.2.2.2.2.1 s.2.2.2.2.2.2.2.2.2.2.2.2.1) (fun p3=>(jn (fun (k4:(Unit×U0)→_)=>(br (bw p2.1.1 0) (br (aC (aj p3.1.2.1 2)) (some ((false,()),(v0.2.1,(v0.2.2.1,(p3.2.1,(p3.2.2.1,(p3.2.2.2.1,(p3.2.2.2.2.1,(p3.2.2.2.2.2.1,(p3.2.2.2.2.2.2.1,(p3.2.2.2.2.2.2.2.1,(p3.2.2.2.2.2.2.2.2.1,(p3.2.2.2.2.2.2.2.2.2.1,(s.2.2.2.2.2.2.2.2.2.2.2.2.2.1,(v1.2.2.1,(v1.2.2.2.1,s.2.2.2.2.2.2.2.2.2.2.2.2.2.2)))))))))))))))) (k (((ae .i64 s.1.1 1),()),((),((),((),(p3.2.1,(p3.2.2.1,(p3.2.2.2.1,(p3.2.2.2.2.1,(p3.2.2.2.2.2.1,(p3.2.2.2.2.2.2.1,(p3.2.2.2.2.2.2.2.1,(p3.2.2.2.2.2.2.2.2.1,(p3.2.2.2.2.2.2.2.2.2.1,s.2.2.2.2.2.2.2.2.2.2.2.2.2))))))))))))))) (br (cX v2.1.1.2.1 p2.1.1) (br (aC (aj p3.1.2.1 2)) (some ((false,()),(v0.2.1,(v0.2.2.1,(p3.2.1,(p3.2.2.1,(p3.2.2.2.1,(p3.2.2.2.2.1,(p3.2.2.2.2.2.1,(p3.2.2.2.2.2.2.1,(p3.2.2.2.2.2.2.2.1,(p3.2.2.2.2.2.2.2.2.1,(p3.2.2.2.2.2.2.2.2.2.1,(s.2.2.2.2.2.2.2.2.2.2.2.2.2.1,(v1.2.2.1,(v1.2.2.2.1,s.2.2.2.2.2.2.2.2.2.2.2.2.2.2)))))))))))))))) (k (((ae .i64 s.1.1 1),()),((),((),((),(p3.2.1,(p3.2.2.1,(p3.2.2.2.1,(p3.2.2.2.2.1,(p3.2.2.2.2.2.1,(p3.2.2.2.2.2.2.1,(p3.2.2.2.2.2.2.2.1,(p3.2.2.2.2.2.2.2.2.1,(p3.2.2.2.2.2.2.2.2.2.1,s.2.2.2.2.2.2.2.2.2.2.2.2.2))))))))))))))) (k4 ((),((),((),((),())))))))) (fun (s5:(Unit×U0))=>(gd (bf s.1.1) (gd (bl (nN s.1.1) (len a2)) (bd (g.aN v4 p2.1.1 ((nth (0,(0,(0,(0,(0,(0,(0,0))))))) a2 (nN s.1.1)).2.1,((nth (0,(0,(0,(0,(0,(0,(0,0))))))) a2 (nN s.1.1)).2.2.1,((nth (0,(0,(0,(0,(0,(0,(0,0))))))) a2 (nN s.1.1)).2.2.2.1,((nth (0,(0,(0,(0,(0,(0,(0,0))))))) a2 (nN s.1.1)).2.2.2.2.1,((nth (0,(0,(0,(0,(0,(0,(0,0))))))) a2 (nN s.1.1)).2.2.2.2.2.1,((nth (0,(0,(0,(0,(0,(0,(0,0))))))) a2 (nN s.1.1)).2.2.2.2.2.2.1,(nth (0,(0,(0,(0,(0,(0,(0,0))))))) a2 (nN s.1.1)).2.2.2.2.2.2.2)))))) v1.2.2.1 v1.2.2.2.1 s.2.2.2.2.2.2.2.2.2.2.2.2.2.1 s.2.2.2.2.2.2.2.2.2.2.2.2.2.2.1 s.2.2.2.2.2.2.2.2.2.2.2.2.2.2.2.1 s.2.2.2.2.2.2.2.2.2.2.2.2.2.2.2.2.1 s.2.2.2.2.2.2.2.2.2.2.2.2.2.2.2.2.2.1 s.2.2.2.2.2.2.2.2.2.2.2.2.2.2.2.2.2.2.1) (fun p6=>(bd (g.iX (p3.1.1.1,(p3.1.1.2.1,p3.1.1.2.2)) (p6.1.1.1,(p6.1.1.2.1,p6.1.1.2.2))) (fun p7=>(jn (fun (k8:U5→_)=>(bd (g.jV v3 p2.1.1 v0.2.1 v0.2.2.1 p3.2.1 p3.2.2.1 p3.2.2.2.1 p3.2.2.2.2.1 p3.2.2.2.2.2.1 p3.2.2.2.2.2.2.1 p3.2.2.2.2.2.2.2.1 p3.2.2.2.2.2.2.2.2.1 p3.2.2.2.2.2.2.2.2.2.1) (fun p9=>(gd (bf p2.1.1) (gd (bl (nN p2.1.1) 4) (br (aC (aj (zN (len p9.1.1)) 4)) (k8 ((false,()),((),((),((),()))))) (loop (g.jx p9 p6 v4 p2 k8) ((0,()),((),((),((),()))))))))))) (fun (rM:U5)=>(bd (g.gZ v3 p2.1.1 v0.2.1 v0.2.2.1 p3.2.1 p3.2.2.1 p3.2.2.2.1 p3.2.2.2.2.1 p3.2.2.2.2.2.1 p3.2.2.2.2.2.2.1 p3.2.2.2.2.2.2.2.1 p3.2.2.2.2.2.2.2.2.1 p3.2.2.2.2.2.2.2.2.2.1) (fun dB=>(gd (bf p2.1.1) (gd (bl (nN p2.1.1) 4) (bd (g.iZ dB.1.1 (nth [] (nth bJ p6.2.1 v4).2.2.2.2.2.2.2 (nN p2.1.1))) (fun dq=>(jn (fun (MK:(Unit×U0)→_)=>(br (aC (aj p3.1.2.1 0)) (some ((false,()),(v0.2.1,(v0.2.2.1,(p3.2.1,(p3.2.2.1,(p3.2.2.2.1,(p3.2.2.2.2.1,(p3.2.2.2.2.2.1,(p3.2.2.2.2.2.2.1,(p3.2.2.2.2.2.2.2.1,(p3.2.2.2.2.2.2.2.2.1,(p3.2.2.2.2.2.2.2.2.2.1,(p6.2.1,(v1.2.2.1,(v1.2.2.2.1,p6.2.2)))))))))))))))) (br (aC p7.1.1) (some ((false,()),(v0.2.1,(v0.2.2.1,(p3.2.1,(p3.2.2.1,(p3.2.2.2.1,(p3.2.2.2.2.1,(p3.2.2.2.2.2.1,(p3.2.2.2.2.2.2.1,(p3.2.2.2.2.2.2.2.1,(p3.2.2.2.2.2.2.2.2.1,(p3.2.2.2.2.2.2.2.2.2.1,(p6.2.1,(v1.2.2.1,(v1.2.2.2.1,p6.2.2)))))))))))))))) (br (aC rM.1.1) (some ((false,()),(v0.2.1,(v0.2.2.1,(p3.2.1,(p3.2.2.1,(p3.2.2.2.1,(p3.2.2.2.2.1,(p3.2.2.2.2.2.1,(p3.2.2.2.2.2.2.1,(p3.2.2.2.2.2.2.2.1,(p3.2.2.2.2.2.2.2.2.1,(p3.2.2.2.2.2.2.2.2.2.1,(p6.2.1,(v1.2.2.1,(v1.2.2.2.1,p6.2.2)))))))))))))))) (br (aC dq.1.1) (some ((false,()),(v0.2.1,(v0.2.2.1,(p3.2.1,(p3.2.2.1,(p3.2.2.2.1,(p3.2.2.2.2.1,(p3.2.2.2.2.2.1,(p3.2.2.2.2.2.2.1,(p3.2.2.2.2.2.2.2.1,(p3.2.2.2.2.2.2.2.2.1,(p3.2.2.2.2.2.2.2.2.2.1,(p6.2.1,(v1.2.2.1,(v1.2.2.2.1,p6.2.2)))))))))))))))) (MK ((),((),((),((),())))))))))) (fun (yw:(Unit×U0))=>(loop (g.f_ v2 v3 v0 p3 p6 v4 v1 p2 k s) ((0,()),((),((),((),())))))))))))))))))))))))))))))))))
def g.mh (a2:(List (Int×sZ))) (v0:U8) (v1:TV) (v2:(((Int×U4)×Unit)×Unit)) (v3:Nat) (k:(U3→U1)) (s:U3):U1:=(jn (fun (k0:(Unit×U0)→_)=>(br (bw s.1.1 (zN (len a2))) (br (bw s.1.1 80) (k0 ((),((),((),((),()))))) (some ((true,()),(v0.2.1,(v0.2.2.1,(s.2.2.2.2.1,(s.2.2.2.2.2.1,(s.2.2.2.2.2.2.1,(s.2.2.2.2.2.2.2.1,(s.2.2.2.2.2.2.2.2.1,(s.2.2.2.2.2.2.2.2.2.1,(s.2.2.2.2.2.2.2.2.2.2.1,(s.2.2.2.2.2.2.2.2.2.2.2.1,(s.2.2.2.2.2.2.2.2.2.2.2.2.1,(s.2.2.2.2.2.2.2.2.2.2.2.2.2.1,(v1.2.2.1,(v1.2.2.2.1,s.2.2.2.2.2.2.2.2.2.2.2.2.2.2))))))))))))))))) (some ((true,()),(v0.2.1,(v0.2.2.1,(s.2.2.2.2.1,(s.2.2.2.2.2.1,(s.2.2.2.2.2.2.1,(s.2.2.2.2.2.2.2.1,(s.2.2.2.2.2.2.2.2.1,(s.2.2.2.2.2.2.2.2.2.1,(s.2.2.2.2.2.2.2.2.2.2.1,(s.2.2.2.2.2.2.2.2.2.2.2.1,(s.2.2.2.2.2.2.2.2.2.2.2.2.1,(s.2.2.2.2.2.2.2.2.2.2.2.2.2.1,(v1.2.2.1,(v1.2.2.2.1,s.2.2.2.2.2.2.2.2.2.2.2.2.2.2)))))))))))))))))) (fun (s1:(Unit×U0))=>(gd (bf s.1.1) (gd (bl (nN s.1.1) (len a2)) (bd (g.eK (nth (0,(0,(0,(0,(0,(0,(0,0))))))) a2 (nN s.1.1)).1 (v2.1.1.1,(v2.1.1.2.1,(v2.1.1.2.2.1,v2.1.1.2.2.2)))) (fun p2=>(gd (bf s.1.1) (gd (bl (nN s.1.1) (len a2)) (bd (g.de v3 p2.1.1 ((nth (0,(0,(0,(0,(0,(0,(0,0))))))) a2 (nN s.1.1)).2.1,((nth (0,(0,(0,(0,(0,(0,(0,0))))))) a2 (nN s.1.1)).2.2.1,((nth (0,(0,(0,(0,(0,(0,(0,0))))))) a2 (nN s.1.1)).2.2.2.1,((nth (0,(0,(0,(0,(0,(0,(0,0))))))) a2 (nN s.1.1)).2.2.2.2.1,((nth (0,(0,(0,(0,(0,(0,(0,0))))))) a2 (nN s.1.1)).2.2.2.2.2.1,((nth (0,(0,(0,(0,(0,(0,(0,0))))))) a2 (nN s.1.1)).2.2.2.2.2.2.1,(nth (0,(0,(0,(0,(0,(0,(0,0))))))) a2 (nN s.1.1)).2.2.2.2.2.2.2)))))) v0.2.1 v0.2.2.1 s.2.2.2.2.1 s.2.2.2.2.2.1 s.2.2.2.2.2.2.1 s.2.2.2.2.2.2.2.1 s.2.2.2.2.2.2.2.2.1 s.2.2.2.2.2.2.2.2.2.1 s.2.2.2.2.2.2.2.2.2.2.1 s.2.2.2.2.2.2.2.2.2.2.2.1 s.2.2.2.2.2.2.2.2.2.2.2.2.1) (fun p3=>(jn (fun (k4:(Unit×U0)→_)=>(br (bw p2.1.1 0) (br (aC (aj p3.1.2.1 2)) (some ((false,()),(v0.2.1,(v0.2.2.1,(p3.2.1,(p3.2.2.1,(p3.2.2.2.1,(p3.2.2.2.2.1,(p3.2.2.2.2.2.1,(p3.2.2.2.2.2.2.1,(p3.2.2.2.2.2.2.2.1,(p3.2.2.2.2.2.2.2.2.1,(p3.2.2.2.2.2.2.2.2.2.1,(s.2.2.2.2.2.2.2.2.2.2.2.2.2.1,(v1.2.2.1,(v1.2.2.2.1,s.2.2.2.2.2.2.2.2.2.2.2.2.2.2)))))))))))))))) (k (((ae .i64 s.1.1 1),()),((),((),((),(p3.2.1,(p3.2.2.1,(p3.2.2.2.1,(p3.2.2.2.2.1,(p3.2.2.2.2.2.1,(p3.2.2.2.2.2.2.1,(p3.2.2.2.2.2.2.2.1,(p3.2.2.2.2.2.2.2.2.1,(p3.2.2.2.2.2.2.2.2.2.1,s.2.2.2.2.2.2.2.2.2.2.2.2.2))))))))))))))) (br (cX v2.1.1.2.1 p2.1.1) (br (aC (aj p3.1.2.1 2)) (some ((false,()),(v0.2.1,(v0.2.2.1,(p3.2.1,(p3.2.2.1,(p3.2.2.2.1,(p3.2.2.2.2.1,(p3.2.2.2.2.2.1,(p3.2.2.2.2.2.2.1,(p3.2.2.2.2.2.2.2.1,(p3.2.2.2.2.2.2.2.2.1,(p3.2.2.2.2.2.2.2.2.2.1,(s.2.2.2.2.2.2.2.2.2.2.2.2.2.1,(v1.2.2.1,(v1.2.2.2.1,s.2.2.2.2.2.2.2.2.2.2.2.2.2.2)))))))))))))))) (k (((ae .i64 s.1.1 1),()),((),((),((),(p3.2.1,(p3.2.2.1,(p3.2.2.2.1,(p3.2.2.2.2.1,(p3.2.2.2.2.2.1,(p3.2.2.2.2.2.2.1,(p3.2.2.2.2.2.2.2.1,(p3.2.2.2.2.2.2.2.2.1,(p3.2.2.2.2.2.2.2.2.2.1,s.2.2.2.2.2.2.2.2.2.2.2.2.2))))))))))))))) (k4 ((),((),((),((),())))))))) (fun (s5:(Unit×U0))=>(gd (bf s.1.1) (gd (bl (nN s.1.1) (len a2)) none))))))))))))))
def g.jv (a2:(List (Int×sZ))) (v0:U8) (v1:TV) (v2:(((Int×U4)×Unit)×Unit)) (k:(U3→U1)) (s:U3):U1:=(jn (fun (k0:(Unit×U0)→_)=>(br (bw s.1.1 (zN (len a2))) (br (bw s.1.1 80) (k0 ((),((),((),((),()))))) (some ((true,()),(v0.2.1,(v0.2.2.1,(s.2.2.2.2.1,(s.2.2.2.2.2.1,(s.2.2.2.2.2.2.1,(s.2.2.2.2.2.2.2.1,(s.2.2.2.2.2.2.2.2.1,(s.2.2.2.2.2.2.2.2.2.1,(s.2.2.2.2.2.2.2.2.2.2.1,(s.2.2.2.2.2.2.2.2.2.2.2.1,(s.2.2.2.2.2.2.2.2.2.2.2.2.1,(s.2.2.2.2.2.2.2.2.2.2.2.2.2.1,(v1.2.2.1,(v1.2.2.2.1,s.2.2.2.2.2.2.2.2.2.2.2.2.2.2))))))))))))))))) (some ((true,()),(v0.2.1,(v0.2.2.1,(s.2.2.2.2.1,(s.2.2.2.2.2.1,(s.2.2.2.2.2.2.1,(s.2.2.2.2.2.2.2.1,(s.2.2.2.2.2.2.2.2.1,(s.2.2.2.2.2.2.2.2.2.1,(s.2.2.2.2.2.2.2.2.2.2.1,(s.2.2.2.2.2.2.2.2.2.2.2.1,(s.2.2.2.2.2.2.2.2.2.2.2.2.1,(s.2.2.2.2.2.2.2.2.2.2.2.2.2.1,(v1.2.2.1,(v1.2.2.2.1,s.2.2.2.2.2.2.2.2.2.2.2.2.2.2)))))))))))))))))) (fun (s1:(Unit×U0))=>(gd (bf s.1.1) (gd (bl (nN s.1.1) (len a2)) (bd (g.eK (nth (0,(0,(0,(0,(0,(0,(0,0))))))) a2 (nN s.1.1)).1 (v2.1.1.1,(v2.1.1.2.1,(v2.1.1.2.2.1,v2.1.1.2.2.2)))) (fun p2=>(gd (bf s.1.1) (gd (bl (nN s.1.1) (len a2)) none))))))))
def g.h_ (a0:(Int×U4)) (a1:(List (List U4))) (a2:(List (Int×sZ))) (d0:T0) (d1:T1) (d2:T2) (d3:T3) (d4:T4) (d5:T5) (d6:T6) (d7:T7) (d8:T8) (d9:T9) (d10:dQ) (d11:l3) (d12:lG) (d13:kt) (d14:iK) (d15:T4) (d16:gT) (d17:lF) (d18:dQ):U1:=(bd (g.iF d0 d1 d2 d3 d4 d5 d6 d7 d8 d9 d10) (fun p0=>(bd (g.jP (a0.1,(a0.2.1,(a0.2.2.1,a0.2.2.2)))) (fun p1=>(bd (g.jO a1) (fun p2=>(bd (g.l8 (p1.1.1.1,(p1.1.1.2.1,(p1.1.1.2.2.1,p1.1.1.2.2.2))) p2.1.1 p0.2.2.2.2.2.2.2.2.2.1 p0.2.2.2.2.2.2.2.2.2.2.1 p0.2.2.2.2.2.2.2.2.2.2.2.1 p0.2.1 p0.2.2.1 p0.2.2.2.1 p0.2.2.2.2.1 p0.2.2.2.2.2.1 p0.2.2.2.2.2.2.1 p0.2.2.2.2.2.2.2.1 p0.2.2.2.2.2.2.2.2.1) (fun p3=>(opt p3.1.1 (bd (g.hM (p1.1.1.1,(p1.1.1.2.1,(p1.1.1.2.2.1,p1.1.1.2.2.2))) p2.1.1 d17 d18 d11 d12 d13 d14 d15 d16) (fun p4=>(opt p4.1.1 (jn (fun (k5:(Unit×U0)→_)=>(br (aC p0.1.1) (some ((false,()),(p3.2.1,(p3.2.2.1,(p3.2.2.2.1,(p3.2.2.2.2.1,(p3.2.2.2.2.2.1,(p3.2.2.2.2.2.2.1,(p3.2.2.2.2.2.2.2.1,(p3.2.2.2.2.2.2.2.2.1,(p0.2.2.2.2.2.2.2.2.2.1,(p0.2.2.2.2.2.2.2.2.2.2.1,(p0.2.2.2.2.2.2.2.2.2.2.2.1,(p4.2.1,(p4.2.2.1,(p4.2.2.2.1,(p4.2.2.2.2.1,(p4.2.2.2.2.2.1,(p4.2.2.2.2.2.2.1,(d17,(d18,()))))))))))))))))))))) (some ((false,()),(p3.2.1,(p3.2.2.1,(p3.2.2.2.1,(p3.2.2.2.2.1,(p3.2.2.2.2.2.1,(p3.2.2.2.2.2.2.1,(p3.2.2.2.2.2.2.2.1,(p3.2.2.2.2.2.2.2.2.1,(p0.2.2.2.2.2.2.2.2.2.1,(p0.2.2.2.2.2.2.2.2.2.2.1,(p0.2.2.2.2.2.2.2.2.2.2.2.1,(p4.2.1,(p4.2.2.1,(p4.2.2.2.1,(p4.2.2.2.2.1,(p4.2.2.2.2.2.1,(p4.2.2.2.2.2.2.1,(d17,(d18,()))))))))))))))))))))))) (fun (s6:(Unit×U0))=>(loop (g.jv a2 p3 p4 p1) ((0,()),((),((),((),(p3.2.2.2.1,(p3.2.2.2.2.1,(p3.2.2.2.2.2.1,(p3.2.2.2.2.2.2.1,(p3.2.2.2.2.2.2.2.1,(p3.2.2.2.2.2.2.2.2.1,(p0.2.2.2.2.2.2.2.2.2.1,(p0.2.2.2.2.2.2.2.2.2.2.1,(p0.2.2.2.2.2.2.2.2.2.2.2.1,(p4.2.1,(p4.2.2.2.2.1,(p4.2.2.2.2.2.1,(p4.2.2.2.2.2.2.1,(d17,(d18,())))))))))))))))))))))) (fun dq=>(jn (fun (MK:(Unit×U0)→_)=>(br (aC p0.1.1) (some ((false,()),(p3.2.1,(p3.2.2.1,(p3.2.2.2.1,(p3.2.2.2.2.1,(p3.2.2.2.2.2.1,(p3.2.2.2.2.2.2.1,(p3.2.2.2.2.2.2.2.1,(p3.2.2.2.2.2.2.2.2.1,(p0.2.2.2.2.2.2.2.2.2.1,(p0.2.2.2.2.2.2.2.2.2.2.1,(p0.2.2.2.2.2.2.2.2.2.2.2.1,(p4.2.1,(p4.2.2.1,(p4.2.2.2.1,(p4.2.2.2.2.1,(p4.2.2.2.2.2.1,(p4.2.2.2.2.2.2.1,(d17,(d18,()))))))))))))))))))))) (some ((false,()),(p3.2.1,(p3.2.2.1,(p3.2.2.2.1,(p3.2.2.2.2.1,(p3.2.2.2.2.2.1,(p3.2.2.2.2.2.2.1,(p3.2.2.2.2.2.2.2.1,(p3.2.2.2.2.2.2.2.2.1,(p0.2.2.2.2.2.2.2.2.2.1,(p0.2.2.2.2.2.2.2.2.2.2.1,(p0.2.2.2.2.2.2.2.2.2.2.2.1,(p4.2.1,(p4.2.2.1,(p4.2.2.2.1,(p4.2.2.2.2.1,(p4.2.2.2.2.2.1,(p4.2.2.2.2.2.2.1,(d17,(d18,()))))))))))))))))))))))) (fun (yw:(Unit×U0))=>(loop (g.jv a2 p3 p4 p1) ((0,()),((),((),((),(p3.2.2.2.1,(p3.2.2.2.2.1,(p3.2.2.2.2.2.1,(p3.2.2.2.2.2.2.1,(p3.2.2.2.2.2.2.2.1,(p3.2.2.2.2.2.2.2.2.1,(p0.2.2.2.2.2.2.2.2.2.1,(p0.2.2.2.2.2.2.2.2.2.2.1,(p0.2.2.2.2.2.2.2.2.2.2.2.1,(p4.2.1,(p4.2.2.2.2.1,(p4.2.2.2.2.2.1,(p4.2.2.2.2.2.2.1,(d17,(d18,())))))))))))))))))))))))))) (fun gQ=>(bd (g.hM (p1.1.1.1,(p1.1.1.2.1,(p1.1.1.2.2.1,p1.1.1.2.2.2))) p2.1.1 d17 d18 d11 d12 d13 d14 d15 d16) (fun iv=>(opt iv.1.1 (jn (fun (k22:(Unit×U0)→_)=>(br (aC p0.1.1) (some ((false,()),(p3.2.1,(p3.2.2.1,(p3.2.2.2.1,(p3.2.2.2.2.1,(p3.2.2.2.2.2.1,(p3.2.2.2.2.2.2.1,(p3.2.2.2.2.2.2.2.1,(p3.2.2.2.2.2.2.2.2.1,(p0.2.2.2.2.2.2.2.2.2.1,(p0.2.2.2.2.2.2.2.2.2.2.1,(p0.2.2.2.2.2.2.2.2.2.2.2.1,(iv.2.1,(iv.2.2.1,(iv.2.2.2.1,(iv.2.2.2.2.1,(iv.2.2.2.2.2.1,(iv.2.2.2.2.2.2.1,(d17,(d18,()))))))))))))))))))))) (br (aC (aj p3.1.2.1 0)) (some ((false,()),(p3.2.1,(p3.2.2.1,(p3.2.2.2.1,(p3.2.2.2.2.1,(p3.2.2.2.2.2.1,(p3.2.2.2.2.2.2.1,(p3.2.2.2.2.2.2.2.1,(p3.2.2.2.2.2.2.2.2.1,(p0.2.2.2.2.2.2.2.2.2.1,(p0.2.2.2.2.2.2.2.2.2.2.1,(p0.2.2.2.2.2.2.2.2.2.2.2.1,(iv.2.1,(iv.2.2.1,(iv.2.2.2.1,(iv.2.2.2.2.1,(iv.2.2.2.2.2.1,(iv.2.2.2.2.2.2.1,(d17,(d18,()))))))))))))))))))))) (k22 ((),((),((),((),())))))))) (fun (s23:(Unit×U0))=>(loop (g.mh a2 p3 iv p1 gQ) ((0,()),((),((),((),(p3.2.2.2.1,(p3.2.2.2.2.1,(p3.2.2.2.2.2.1,(p3.2.2.2.2.2.2.1,(p3.2.2.2.2.2.2.2.1,(p3.2.2.2.2.2.2.2.2.1,(p0.2.2.2.2.2.2.2.2.2.1,(p0.2.2.2.2.2.2.2.2.2.2.1,(p0.2.2.2.2.2.2.2.2.2.2.2.1,(iv.2.1,(iv.2.2.2.2.1,(iv.2.2.2.2.2.1,(iv.2.2.2.2.2.2.1,(d17,(d18,())))))))))))))))))))))) (fun Ey=>(jn (fun (k33:(Unit×U0)→_)=>(br (aC p0.1.1) (some ((false,()),(p3.2.1,(p3.2.2.1,(p3.2.2.2.1,(p3.2.2.2.2.1,(p3.2.2.2.2.2.1,(p3.2.2.2.2.2.2.1,(p3.2.2.2.2.2.2.2.1,(p3.2.2.2.2.2.2.2.2.1,(p0.2.2.2.2.2.2.2.2.2.1,(p0.2.2.2.2.2.2.2.2.2.2.1,(p0.2.2.2.2.2.2.2.2.2.2.2.1,(iv.2.1,(iv.2.2.1,(iv.2.2.2.1,(iv.2.2.2.2.1,(iv.2.2.2.2.2.1,(iv.2.2.2.2.2.2.1,(d17,(d18,()))))))))))))))))))))) (br (aC (aj p3.1.2.1 0)) (some ((false,()),(p3.2.1,(p3.2.2.1,(p3.2.2.2.1,(p3.2.2.2.2.1,(p3.2.2.2.2.2.1,(p3.2.2.2.2.2.2.1,(p3.2.2.2.2.2.2.2.1,(p3.2.2.2.2.2.2.2.2.1,(p0.2.2.2.2.2.2.2.2.2.1,(p0.2.2.2.2.2.2.2.2.2.2.1,(p0.2.2.2.2.2.2.2.2.2.2.2.1,(iv.2.1,(iv.2.2.1,(iv.2.2.2.1,(iv.2.2.2.2.1,(iv.2.2.2.2.2.1,(iv.2.2.2.2.2.2.1,(d17,(d18,()))))))))))))))))))))) (k33 ((),((),((),((),())))))))) (fun (s34:(Unit×U0))=>(loop (g.fZ a2 p3 iv p1 gQ Ey) ((0,()),((),((),((),(p3.2.2.2.1,(p3.2.2.2.2.1,(p3.2.2.2.2.2.1,(p3.2.2.2.2.2.2.1,(p3.2.2.2.2.2.2.2.1,(p3.2.2.2.2.2.2.2.2.1,(p0.2.2.2.2.2.2.2.2.2.1,(p0.2.2.2.2.2.2.2.2.2.2.1,(p0.2.2.2.2.2.2.2.2.2.2.2.1,(iv.2.1,(iv.2.2.2.2.1,(iv.2.2.2.2.2.1,(iv.2.2.2.2.2.2.1,(d17,(d18,()))))))))))))))))))))))))))))))))))))
def F10:Plain X_:=fun x c d=>g.h_ x.1 x.2.1 x.2.2.1 d.1 d.2.1 d.2.2.1 d.2.2.2.1 d.2.2.2.2.1 d.2.2.2.2.2.1 d.2.2.2.2.2.2.1 d.2.2.2.2.2.2.2.1 d.2.2.2.2.2.2.2.2.1 d.2.2.2.2.2.2.2.2.2.1 d.2.2.2.2.2.2.2.2.2.2.1 d.2.2.2.2.2.2.2.2.2.2.2.1 d.2.2.2.2.2.2.2.2.2.2.2.2.1 d.2.2.2.2.2.2.2.2.2.2.2.2.2.1 d.2.2.2.2.2.2.2.2.2.2.2.2.2.2.1 d.2.2.2.2.2.2.2.2.2.2.2.2.2.2.2.1 d.2.2.2.2.2.2.2.2.2.2.2.2.2.2.2.2.1 d.2.2.2.2.2.2.2.2.2.2.2.2.2.2.2.2.2.1 d.2.2.2.2.2.2.2.2.2.2.2.2.2.2.2.2.2.2.1
theorem ahz:bV Tryz.prog 10 X_ F10:=cw (av ahy (av aa6 (av aaW (av ahw (av ahv (av ahu (av aht (av ahs (av ahr (av ahq (av ahp (av aho (av ahn (av ahm (av ahl (av ahk (av ahj (aP)))))))))))))))))) fun x c d=>by kernel_rfl
open Go.Bm Go.jG
def thr (p:rA) (t:Int):Int:=if 0≤t∧t<1000 then t%p.2.1 else t
theorem HR {p:rA} (hp:dz p=true) (t:Int):g.eK t p=some ((thr p t,()),()):=by
 have h:=cL.1 hp
 unfold g.eK thr
 by_cases h1:0≤t
 ·by_cases h2:t<1000
  ·rw [if_pos ⟨h1,h2⟩]
   repeat refine HS ?_
   rw [aS h1]
  ·rw [if_neg (fun h=>h2 h.2)]
   repeat refine HS ?_
   rfl
 ·rw [if_neg (fun h=>h1 h.1)]
  repeat refine HS ?_
  rfl
theorem Hi {a:LF} (hl:a.2.2.length≤100000):g.iX a a=some ((true,()),()):=by
 unfold g.iX
 repeat refine HS ?_
 refine dN (fun k=>oF (k:Int)) (fun _=>some ((true,()),())) a.2.2.length (by unfold lD;omega) (fun K=>?_) (fun k hk=>.inr ⟨rfl,fun K=>?_⟩)
 ·unfold g.js oF
  dsimp only
  repeat refine HS ?_
  rfl
 ·unfold g.js oF
  dsimp only
  rw [uE (by omega)]
  repeat refine HS ?_
  rfl
theorem G6 {l:List cW} (hl:l.length≤100):g.iZ l l=some ((true,()),()):=by
 unfold g.iZ
 refine (bD).trans ?_
 refine (ao rfl).trans ?_
 refine dN (fun k=>oF (k:Int)) (fun _=>some ((true,()),())) l.length (by unfold lD;omega) (fun K=>?_) (fun k hk=>.inr ⟨rfl,fun K=>?_⟩)
 ·unfold g.ju oF
  dsimp only
  repeat refine HS ?_
  rfl
 ·unfold g.ju oF
  dsimp only
  rw [uE (by omega)]
  generalize nth (0,false) l (nN (k:Int))=x
  have hx:j7 (aj x.1 x.1) (j7 (qx x.2 x.2) true)=true:=by unfold j7 aj qx;simp
  repeat refine HS ?_
  rfl
theorem Nz (c:ni):j7 (aj c.1 c.1) (j7 (aj c.2.1 c.2.1) (j7 (aj c.2.2.1 c.2.2.1) (j7 (aj c.2.2.2 c.2.2.2) true)))=true:=by unfold j7 aj;simp
def mU (m:M) (o:Out):Prop:=o.2.2.2=[]∨∃s:Int,0≤s∧s<m.p.1∧o.2.2.2=(bQ m.f (m.bA s).a5).2.1
theorem AK (m:M) (l:List cW) (v s:Int) (to:M):(m.put l v s to).2.2.2=[]:=by
 unfold M.put
 split
 ·rfl
 ·split
  ·rfl
  ·cases (m.check l v).1 with
   | none=>rfl
   | some o=>dsimp only;split<;>rfl
theorem vd (m:M) (n s:Int) (l:List cW) (a:LF):(m.leave n s l a).2=a:=by unfold M.leave;split<;>rfl
theorem H8 {m:M} {k:Nat} (h:MI k m) (hc:CT m) {n:Int} (hn:0≤n∧n<m.th.length) (c:qm):mU m (m.act n c):=by
 obtain ⟨op,r,g,v,a,b,t⟩:=c
 refine dw (mU m) (fun _=>.inl rfl) fun _=>?_
 refine dw (mU m) (fun _=>.inl rfl) fun _=>?_
 refine dw (mU m) (fun _=>.inl rfl) fun _=>?_
 refine dw (mU m) (fun _=>.inl rfl) fun _=>?_
 refine dw (mU m) (fun _=>.inl (by unfold M.enter;split;rfl;split;rfl;split<;>rfl)) fun _=>?_
 refine dw (mU m) (fun _=>?_) fun _=>?_
 ·unfold mU M.exit
  cases hx:(m.aA n).aF.getLast? with
  | none=>exact .inl rfl
  | some x=>
   obtain ⟨s,bb⟩:=x
   cases bb with
   | false=>exact .inl rfl
   | true=>
    have hm:=List.mem_of_getLast? hx
    have kP:=h.live hc (M.rH hn) (.inr hm)
    dsimp only
    rw [if_neg (by simp)]
    split
    ·refine .inr ⟨s,kP.2.2.1,kP.2.2.2,?_⟩
     split
     ·rfl
     ·rw [vd]
    ·rw [vd];exact .inl rfl
 refine dw (mU m) (fun _=>.inl (by unfold M.oj;split;rfl;split;rfl;split<;>rfl)) fun _=>?_
 refine dw (mU m) (fun _=>.inl (by unfold M.alloc;split;rfl;split<;>rfl)) fun _=>?_
 refine dw (mU m) (fun _=>.inl ?_) fun _=>?_
 ·unfold M.load
  split
  ·rfl
  ·cases (m.check (m.aA n).aF (m.cT n g)).1 with
   | none=>rfl
   | some o=>dsimp only;split<;>rfl
 refine dw (mU m) (fun _=>.inl ?_) fun _=>?_
 ·unfold M.store
  split
  ·rfl
  ·cases (m.check (m.aA n).aF (m.cT n g)).1 with
   | none=>rfl
   | some o=>
    dsimp only
    split
    ·rfl
    ·exact AK _ _ _ _ _
 refine dw (mU m) (fun _=>.inl (by unfold M.fX;split;rfl;split<;>rfl)) fun _=>?_
 refine dw (mU m) (fun _=>.inl ?_) fun _=>.inl rfl
 unfold M.gate
 split
 ·rfl
 ·split
  ·rfl
  ·exact AK _ _ _ _ _
section
variable {p:rA} {md yd k:Nat} {m:M} {b:YB} {v2:LwN} {v3:LwD} {v4:DoY} {v6:LwY}
theorem Yj (hS:St v2.2.1 v2.2.2.1 v3.2.1 v3.2.2.1 v3.2.2.2.1 v3.2.2.2.2.1 v3.2.2.2.2.2.1 v3.2.2.2.2.2.2.1 v3.2.2.2.2.2.2.2.1 v3.2.2.2.2.2.2.2.2.1 v3.2.2.2.2.2.2.2.2.2.1 md k m) (hY:YR yd m b v4.2.1 v6.2.2.1 v6.2.2.2.1 v4.2.2.1 v4.2.2.2.1 v4.2.2.2.2.1 v4.2.2.2.2.2.1 v4.2.2.2.2.2.2.1) {n:Int} (hn:0≤n∧n<m.th.length)
  (v7:TZ→LwR) (v8:TZ) (hv:pP (v7 (Tv (ae .i64 v8.1.1 1) v3.2.1 v3.2.2.1 v3.2.2.2.1 v3.2.2.2.2.1 v3.2.2.2.2.2.1 v3.2.2.2.2.2.2.1 v3.2.2.2.2.2.2.2.1 v3.2.2.2.2.2.2.2.2.1 v3.2.2.2.2.2.2.2.2.2.1 v4.2))) :
  pP (loop (g.gf ((n,()),()) md v4 yd v2 v3 v6 v7 v8) (oF 0)):=by
 have Dq:=hS.mi.vI
 have dP:=hS.mi.lt
 have hb:=hY.nx
 have ht:=hS.mi.aA hn
 refine tB (fun r (st:TW)=>∃s:Nat,r+s=4∧st=oF (s:Int)) pP ?_ (m:=4) ⟨0,rfl,rfl⟩ (by unfold lD;omega)
 rintro r st ⟨i,hr,rfl⟩ G hG
 unfold g.gf oF
 dsimp only
 simp only [hb]
 by_cases h1:i<4
 ·have hR:=hY.nR hn (i:Int)
  have hV:=hS.mi.cT hn (i:Int)
  have hA:=NT hS hV
  obtain ⟨x,hB,hx⟩:=Iv hY hS.mi hV
  have hbe:qx (kl m (m.cT n (i:Int))).2 (kl m (m.cT n (i:Int))).2=true:=by unfold qx;simp
  have hs6:(kl m (m.cT n (i:Int))).1.length≤100:=by
   unfold kl
   split
   ·exact Nat.zero_le _
   ·rename_i hu
    cases hf:m.find (ay (m.cT n (i:Int))).1 with
    | none=>exact Nat.zero_le _
    | some o=>
     have hu:(ay (m.cT n (i:Int))).2=0:=by simpa using hu
     have h0:0≤(ay (m.cT n (i:Int))).1.1:=(cS.1 (gH hu).1).1.1
     have qX:(ay (m.cT n (i:Int))).1.1<m.p.1:=by
      rcases Int.lt_or_le (ay (m.cT n (i:Int))).1.1 m.p.1 with h | h
      ·exact h
      ·rw [v_ hS.mi h] at hf;cases hf
     have:=(hS.mi.wO ⟨h0,qX⟩).2.ob o (List.mem_of_find?_eq_some hf)
     have:=this.2.2.2.2.2.2.1
     show o.bg.length≤100
     omega
  rw [hR,uE (by omega)]
  rcases hx with ⟨x1,x2⟩ | ⟨j,x1,x2⟩
  ·subst x1
   have hl0:(kl m (m.cT n (i:Int))).1.length=0:=by rw [x2];rfl
   repeat refine YS ?_
   dsimp only
   refine tB (fun r (st:TW)=>r=0∧st=oF 0) pP ?_ (m:=0) ⟨rfl,rfl⟩ (by unfold lD;omega)
   rintro r2 st ⟨hr2,rfl⟩ G2 hG2
   unfold g.jy oF
   dsimp only
   repeat refine YS ?_
   exact hG (r-1) _ (by omega) ⟨i+1,by omega,rfl⟩
  ·subst x1
   repeat refine YS ?_
   dsimp only
   refine tB (fun r (st:TW)=>∃s:Nat,r+s=(kl m (m.cT n (i:Int))).1.length∧st=oF (s:Int)) pP ?_ (m:=(kl m (m.cT n (i:Int))).1.length) ⟨0,by omega,rfl⟩ (by unfold lD;omega)
   rintro r2 st ⟨t,hr2,rfl⟩ G2 hG2
   unfold g.jz oF
   dsimp only
   by_cases h2:t<(kl m (m.cT n (i:Int))).1.length
   ·rw [uE (by omega)]
    repeat refine YS ?_
    exact hG2 (r2-1) _ (by omega) ⟨t+1,by omega,rfl⟩
   ·repeat refine YS ?_
    exact hG (r-1) _ (by omega) ⟨i+1,by omega,rfl⟩
 ·repeat refine YS ?_
  exact hv
theorem Yi (hS:St v2.2.1 v2.2.2.1 v3.2.1 v3.2.2.1 v3.2.2.2.1 v3.2.2.2.2.1 v3.2.2.2.2.2.1 v3.2.2.2.2.2.2.1 v3.2.2.2.2.2.2.2.1 v3.2.2.2.2.2.2.2.2.1 v3.2.2.2.2.2.2.2.2.2.1 md k m) (hY:YR yd m b v4.2.1 v6.2.2.1 v6.2.2.2.1 v4.2.2.1 v4.2.2.2.1 v4.2.2.2.2.1 v4.2.2.2.2.2.1 v4.2.2.2.2.2.2.1) {n:Int} (hn:0≤n∧n<m.th.length) (M0:m.p=p)
  (v7:TZ→LwR) (v8:TZ) (hv:pP (v7 (Tv (ae .i64 v8.1.1 1) v3.2.1 v3.2.2.1 v3.2.2.2.1 v3.2.2.2.2.1 v3.2.2.2.2.2.1 v3.2.2.2.2.2.2.1 v3.2.2.2.2.2.2.2.1 v3.2.2.2.2.2.2.2.2.1 v3.2.2.2.2.2.2.2.2.2.1 v4.2))) :
  pP (loop (g.f_ ((p,()),()) md v2 v3 v4 yd v6 ((n,()),()) v7 v8) (oF 0)):=by
 have Dq:=hS.mi.vI
 rw [M0] at Dq
 have hb:=hY.nx
 have tF:=hY.FU
 have zj:=hY.sc.cr
 have vT:=hS.mi.ls
 have hm1:(m.sc.map (·.1)).length=m.sc.length:=zH ..
 have xh:=Yj hS hY hn v7 v8 hv
 refine tB (fun r (st:TW)=>∃s:Nat,r+s=p.1.toNat∧st=oF (s:Int)) pP ?_ (m:=p.1.toNat) ⟨0,by omega,rfl⟩ (by unfold lD;omega)
 rintro r st ⟨s,hr,rfl⟩ G hG
 unfold g.f_ oF
 dsimp only
 simp only [hb]
 by_cases h1:s<p.1.toNat
 ·have hs:0≤(s:Int)∧(s:Int)<m.p.1:=by rw [M0];omega
  have hC:=abz hS hs
  have hP:=K4 hS hs
  have hU:=SR hS hs
  have hg:nth 0 b.G (nN (s:Int))=(m.bA (s:Int)).gate:=hY.ga _ hs.1 hs.2
  have hu:nth 0 b.B (nN (s:Int))=(m.bA (s:Int)).used:=hY.us _ hs.1 hs.2
  have Lr:=mM (l:=m.sc) (i:=(s:Int)) (by omega)
  have TM:=Nz (ah m.sc (s:Int)).1
  rw [hg,hu,uE (by omega)]
  repeat refine YS ?_
  simp only [tF]
  repeat refine YS ?_
  rw [Lr]
  repeat refine YS ?_
  exact hG (r-1) _ (by omega) ⟨s+1,by omega,rfl⟩
 ·repeat refine YS ?_
  exact xh
theorem Yh {l:List Stp} (hc:∀x∈l,wK x.2) (hpp:dz p=true) {d0:T2} {d1:T3} {d2:T4} {d3:T5} {d4:T6} {d5:T7} {d6:T8} {d7:T9} {d8:dQ} {HB:l3} {rj:iK} {rh:T4} {yb:gT} {wo:lF} {ry:dQ}
  (hS:St v2.2.1 v2.2.2.1 d0 d1 d2 d3 d4 d5 d6 d7 d8 md 0 m) (hY:YR yd m b HB v6.2.2.1 v6.2.2.2.1 rj rh yb wo ry) (M0:m.p=p) :
  pP (loop (g.fZ l v2 v6 ((p,()),()) md yd) (Tv 0 d0 d1 d2 d3 d4 d5 d6 d7 d8 (HB,(rj,(rh,(yb,(wo,(ry,())))))))):=by
 have hpi:=cL.1 hpp
 refine tB (fun r (st:TZ)=>∃(i:Nat) (m:M) (b:YB) (d0:T2) (d1:T3) (d2:T4) (d3:T5) (d4:T6) (d5:T7) (d6:T8) (d7:T9) (d8:dQ) (HB:l3) (rj:iK) (rh:T4) (yb:gT) (wo:lF) (ry:dQ),r+i=80∧St v2.2.1 v2.2.2.1 d0 d1 d2 d3 d4 d5 d6 d7 d8 md i m∧YR yd m b HB v6.2.2.1 v6.2.2.2.1 rj rh yb wo ry∧m.p=p∧st=Tv (i:Int) d0 d1 d2 d3 d4 d5 d6 d7 d8 (HB,(rj,(rh,(yb,(wo,(ry,()))))))) pP ?_ (m:=80)
  ⟨0,m,b,d0,d1,d2,d3,d4,d5,d6,d7,d8,HB,rj,rh,yb,wo,ry,rfl,hS,hY,M0,rfl⟩ (by unfold lD;omega)
 rintro r st ⟨i,m,b,d0,d1,d2,d3,d4,d5,d6,d7,d8,HB,rj,rh,yb,wo,ry,hri,hS,hY,M0,rfl⟩ G hG
 have dP:=hS.mi.lt
 rw [M0] at dP
 unfold g.fZ Tv
 dsimp only
 (refine YS ?_)
 by_cases h1:i<l.length
 ·(refine YS ?_)
  by_cases h2:i<80
  ·have hx:nth (0,(0,(0,(0,(0,(0,(0,0))))))) l (nN (i:Int))=l[i]:=gA h1
   have Zd:=hc l[i] (List.getElem_mem h1)
   have uC:=HR hpp l[i].1
   have ei:=uE (k:=i) (by omega)
   repeat refine YS ?_
   rw [hx]
   generalize l[i]=z at *
   obtain ⟨w,c⟩:=z
   dsimp only at Zd uC ⊢
   refine uo uC ?_
   repeat refine YS ?_
   generalize thr p w=n at *
   dsimp only
   refine hS.yes (by omega) n Zd fun r0 r1 r2 r3 r4 r5 r6 r7 r8 h'=>?_
   have RJ:=(Q7 m n c).trans M0
   by_cases hn:0≤n∧n<m.th.length
   ·have hl8:=hY.adT hS.mi
    obtain ⟨b',f11,f14,f15,f16,f17,f18,q1,q2⟩:=Yg hY hS.mi hS.ct (by omega) hn Zd
    have qF:=LO (m:=m) hn c
    have e1:(m.step n c).1=(if cC c=true then m.act n c else m.code 1).1:=by rw [qF]
    have e2:(m.step n c).2.1=(if cC c=true then m.act n c else m.code 1).2:=by rw [qF]
    have e3:(m.step n c).2.2=0:=by rw [qF]
    rw [←e1] at q2
    rw [←e2] at q1
    have hsd:(m.step n c).2.1.2.2.length≤100000:=by
     rw [e2]
     cases cC c with
     | false=>exact Nat.zero_le _
     | true=>
      rw [if_pos rfl]
      rcases H8 hS.mi hS.ct hn c with h | ⟨s,s0,s1,h⟩
      ·rw [h];exact Nat.zero_le _
      ·rw [h]
       have:=(hY.ob.fin hS.mi ⟨s0,s1⟩).1
       have h3:=tN m.f hS.mi.ff s b.O
       have h4:(bQ m.f (m.bA s).a5).2.1=(fV m.f s b.O).1:=by rw [this]
       rw [h4];omega
    have hSm:=Hi hsd
    have hns:(m.step n c).1.th.length=m.th.length:=by
     have a1:=h'.mi.lt
     have a2:=hS.mi.lt
     rw [RJ] at a1
     rw [M0] at a2
     omega
    have xX:0≤n∧n<(m.step n c).1.th.length:=by omega
    have hRg:=SU h' xX
    have hEn:=Hm h' xX
    have ht':=h'.mi.aA xX
    have ht4:=ht'.1
    have zh:=ht'.2.2.len
    have hES:=G6 (l:=((m.step n c).1.aA n).aF) (by omega)
    have vW:=q2.nx
    have hC':=q2.nC xX
    have hR':=fun r=>q2.nR xX r
    repeat refine YS ?_
    dsimp only
    refine tB (fun r (st:TW)=>∃s:Nat,r+s=4∧st=oF (s:Int)) pP ?_ (m:=4) ⟨0,by omega,rfl⟩ (by unfold lD;omega)
    rintro r9 st ⟨t,hr9,rfl⟩ G2 hG2
    unfold g.jx oF
    dsimp only
    simp only [vW]
    by_cases h9:t<4
    ·have hz:nth 0 ((m.step n c).1.aA n).cP (nN (t:Int))=(m.step n c).1.cT n (t:Int):=rfl
     rw [hR',hz,uE (k:=t) (by omega)]
     repeat refine YS ?_
     exact hG2 (r9-1) _ (by omega) ⟨t+1,by omega,rfl⟩
    ·rw [hC']
     repeat refine YS ?_
     dsimp only
     rw [e3]
     repeat refine YS ?_
     refine Yi (v3:=((((m.step n c).2.1.1,((m.step n c).2.1.2.1,(m.step n c).2.1.2.2)),(0,())),(r0,(r1,(r2,(r3,(r4,(r5,(r6,(r7,(r8,())))))))))))
      (v4:=((((m.step n c).2.1.1,((m.step n c).2.1.2.1,(m.step n c).2.1.2.2)),()),(f11,(f14,(f15,(f16,(f17,(f18,())))))))) h' q2 xX RJ G _ ?_
     refine hG (r-1) _ (by omega) ⟨i+1,_,b',r0,r1,r2,r3,r4,r5,r6,r7,r8,f11,f14,f15,f16,f17,f18,by omega,h',q2,RJ,?_⟩
     rw [←ei]
   ·have qF:m.step n c=(m,(0,0,[]),2):=by unfold M.step;rw [if_pos (kh.2 (by omega))]
    rw [qF] at h' ⊢
    dsimp only at h' ⊢
    have hgo:pP (G (Tv (ae .i64 (i:Int) 1) r0 r1 r2 r3 r4 r5 r6 r7 r8 (HB,(rj,(rh,(yb,(wo,(ry,())))))))):=hG (r-1) _ (by omega) ⟨i+1,m,b,r0,r1,r2,r3,r4,r5,r6,r7,r8,HB,rj,rh,yb,wo,ry,by omega,h',hY,M0,by rw [←ei]⟩
    by_cases RI:n<0
    ·repeat refine YS ?_
     exact hgo
    ·have hn1:p.2.1≤n:=by omega
     repeat refine YS ?_
     exact hgo
  ·(refine YS ?_)
   exact pP.mk
 ·(refine YS ?_)
  exact pP.mk
end
theorem tA (q:rA) (f:List (List iw)) (l:List Stp) (hq:Hs (.pair (.int .i64) (.pair (.int .i64) (.pair (.int .i64) (.int .i64)))) q) (hf:Hs (.cB (.cB (.pair (.int .u8) (.pair (.int .i64) (.int .i64))))) f)
  (hl:Hs (.cB (.pair (.int .i64) (.pair (.int .u8) (.pair (.int .u8) (.pair (.int .u8) (.pair (.int .u8) (.pair (.int .i64) (.pair (.int .i64) (.int .i64))))))))) l):∃d,F10 (q,f,l,()) (G7 _) (G7 _)=some ((true,()),d):=by
 have sX:∀x∈f,∀o∈x,0≤o.1:=fun x hx o ho=>(((hf.2 x hx).2 o ho).1).1
 have Zd:∀x∈l,wK x.2:=fun x hx=>⟨((hl.2 x hx).2.2.1).1,((hl.2 x hx).2.2.2.1).1,((hl.2 x hx).2.2.2.2.1).1⟩
 show pP (g.h_ q f l [] [] [] [] [] [] [] [] [] [] [] [] [] [] [] [] [] [] [])
 unfold g.h_
 obtain ⟨d,hd⟩:=FN [] [] [] [] [] [] [] [] [] [] []
 refine uo hd ?_
 refine uo (A0 q) ?_
 refine uo (AZ sX) ?_
 obtain ⟨e0,e1,e2,e3,e4,e5,e6,e7,k1,h⟩:=St.new (p:=No q) (qZ q) (DO f) d.2.2.2.2.2.2.2.2.1 d.2.2.2.2.2.2.2.2.2.1 d.2.2.2.2.2.2.2.2.2.2.1 d.1 d.2.1 d.2.2.1 d.2.2.2.1 d.2.2.2.2.1 d.2.2.2.2.2.1 d.2.2.2.2.2.2.1 d.2.2.2.2.2.2.2.1
 refine uo k1 ?_
 obtain ⟨b,y11,y12,y13,y14,y15,y16,n1,n2,n3⟩:=Q3 (qZ q) (DP f) [] [] [] [] [] [] [] []
 repeat refine YS ?_
 exact Yh Zd (qZ q) h n2 rfl
open Go.Bm
open Go.ChangeShapes Go.WideShapes Go.ChangeAt Go.RowKit
theorem Tryz.own:ownKnob Tryz.prog.godebug=none:=by kernel_rfl
theorem Tryz.laidOut:laidOutB Tryz.prog=true:=by kernel_rfl
theorem vL (W:World):K3 Tryz.prog W 32 (.pair (.int .i64) (.pair (.int .i64) (.pair (.int .i64) (.int .i64)))):=(rS Tryz.underlying32 (by kernel_rfl) (.cons (mg Tryz.underlying3) rfl (by kernel_rfl) (.cons (mg Tryz.underlying3) rfl (by kernel_rfl) (.cons (mg Tryz.underlying3) rfl (by kernel_rfl) (.one (mg Tryz.underlying3) rfl (by kernel_rfl))))))
theorem vK (W:World):K3 Tryz.prog W 26 (.cB (.cB (.pair (.int .u8) (.pair (.int .i64) (.int .i64))))):=(It Tryz.underlying26 (by kernel_rfl) (by decide) (It Tryz.underlying25 (by kernel_rfl) (by decide) (rS Tryz.underlying24 (by kernel_rfl) (.cons (mg Tryz.underlying5) rfl (by kernel_rfl) (.cons (mg Tryz.underlying3) rfl (by kernel_rfl) (.one (mg Tryz.underlying3) rfl (by kernel_rfl)))))))
theorem vJ (W:World):K3 Tryz.prog W 50 (.cB (.pair (.int .i64) (.pair (.int .u8) (.pair (.int .u8) (.pair (.int .u8) (.pair (.int .u8) (.pair (.int .i64) (.pair (.int .i64) (.int .i64))))))))):=(It Tryz.underlying50 (by kernel_rfl) (by decide) (rS Tryz.underlying54 (by kernel_rfl) (.cons (mg Tryz.underlying3) rfl (by kernel_rfl) (.one (rS Tryz.underlying40 (by kernel_rfl) (.cons (mg Tryz.underlying5) rfl (by kernel_rfl) (.cons (mg Tryz.underlying5) rfl (by kernel_rfl) (.cons (mg Tryz.underlying5) rfl (by kernel_rfl) (.cons (mg Tryz.underlying5) rfl (by kernel_rfl) (.cons (mg Tryz.underlying3) rfl (by kernel_rfl) (.cons (mg Tryz.underlying3) rfl (by kernel_rfl) (.one (mg Tryz.underlying3) rfl (by kernel_rfl))))))))) rfl (by kernel_rfl)))))
set_option maxRecDepth 100000 in
theorem sh (os:Os) (started:os.Started) (H:Type) (enc:TypeId×Value→H) :
  ReturnsInHanded {} Tryz.checked os 10 .any (Rows.modelPlaysSpec.pre6 enc Tryz.prog Tryz.f10 Rows.modelPlaysRow.domain false) (Rows.modelPlaysSpec.post enc Tryz.prog Tryz.f10 false true false false):=by
 refine returnsInHanded_of_change (C:=Tryz.checked) Tryz.own started (by kernel_rfl) Tryz.func10
  (ChangeSpec.witness6 (enc:=enc) (C:=Tryz.checked) false ⟨#[],#[.agg #[.int .i64 0,.int .i64 0,.int .i64 0,.int .i64 0],.slice none 0 0,.slice none 0 0],[]⟩ 8 (by kernel_rfl) (by kernel_rfl) (by kernel_rfl) (by kernel_rfl)) ?_
 intro W base args ds gs before P7 hW anl _
 have uB:∀(j:Nat) t v,Tryz.f10.params[j]?=some t→args[j]?=some v→Value.okWide Tryz.prog W .any base t v:=P7
 have hW':=hW
 obtain ⟨p,q,hA0,hV,rfl,hfz,hnd⟩:=hW
 have hA:DataW.TrodAll enc Tryz.prog W 0 (fun _=>true) true Tryz.f10.params.toList args.toList ds p:=hA0
 rw [Tryz.params10] at hA uB
 obtain ⟨v0,v1,v2,d0,d1,d2,p0,p1,p2,rfl,rfl,rfl,h0,h1,h2⟩:=trodAll_three hA
 obtain ⟨rfl,rfl⟩:=trodVars_none hV
 clear hA0 P7
 simp only [List.append_nil] at hW'
 obtain ⟨w0,rfl,_⟩:=okWide_struct Tryz.underlying32 (uB 0 32 v0 rfl rfl)
 obtain ⟨x0,k0,o0⟩:=L2 (vL W) rfl h0
 have c1:v1.cells.toList=[v1]:=by obtain ⟨_,_,_,rfl⟩:=okWide_slice Tryz.underlying26 (uB 1 26 v1 rfl rfl);rfl
 obtain ⟨x1,k1,o1⟩:=Is (vK W) rfl c1 h1
 have c2:v2.cells.toList=[v2]:=by obtain ⟨_,_,_,rfl⟩:=okWide_slice Tryz.underlying50 (uB 2 50 v2 rfl rfl);rfl
 obtain ⟨x2,k2,o2⟩:=Is (vJ W) rfl c2 h2
 have dP:∀x∈p0++(p1++p2),x.block<W.heap.size:=fun x hx=>hW'.lt x (by simpa using hx)
 obtain ⟨dd,hF⟩:=tA x0 x1 x2 o0 o1 o2
 refine (Jk ahz rfl (x0,x1,x2,()) hF rfl (vs:=[.agg w0,v1,v2]) rfl (fun i d v e1 e2=>?_)).mono fun e W' ⟨he,hs⟩=>?_
 ·match i with
  | 0=>cases e1;cases e2;exact k0
  | 1=>cases e1;cases e2;exact k1
  | 2=>cases e1;cases e2;exact k2
  | i+3=>cases e1
 subst he
 have r0:DataW.Trod enc Tryz.prog W' 0 (fun b=>decide (b<W.heap.size)) true 32 (.agg w0) d0 p0:=
  WideElems.Trod_stays Tryz.laidOut (by kernel_rfl) (of_decide_eq_true (by kernel_rfl)) h0 (fun x hx=>hs.sameAt (dP x (by simp [hx]))) (fun x hx=>by simpa using dP x (by simp [hx]))
 have r1:DataW.Trod enc Tryz.prog W' 0 (fun b=>decide (b<W.heap.size)) true 26 (v1) d1 p1:=
  WideElems.Trod_stays Tryz.laidOut (by kernel_rfl) (of_decide_eq_true (by kernel_rfl)) h1 (fun x hx=>hs.sameAt (dP x (by simp [hx]))) (fun x hx=>by simpa using dP x (by simp [hx]))
 have r2:DataW.Trod enc Tryz.prog W' 0 (fun b=>decide (b<W.heap.size)) true 50 (v2) d2 p2:=
  WideElems.Trod_stays Tryz.laidOut (by kernel_rfl) (of_decide_eq_true (by kernel_rfl)) h2 (fun x hx=>hs.sameAt (dP x (by simp [hx]))) (fun x hx=>by simpa using dP x (by simp [hx]))
 refine ⟨_,rfl,_,_,_,[],p0++(p1++p2),[],hW',?_,?_,?_,hs.frame _,fun h=>by cases h⟩
 ·exact trodAll_mk1 (shut_bool Tryz.underlying4 true)
 ·exact trodAll_mk3 r0 r1 r2
 ·exact rfl
theorem modelPlays_holds:Rows.ModelPlaysSaid:=
 OpenClaim.holds_of_wide 10 Tryz.f10 rfl rfl rfl rfl rfl rfl rfl ⟨rfl,rfl,rfl,rfl,rfl⟩ rfl rfl rfl rfl rfl (by kernel_rfl) Tryz.func10 (by kernel_rfl)
  (of_decide_eq_true (by kernel_rfl)) (by unfold Func.isWrapper;first | (rw [if_pos (by decide +kernel)];kernel_rfl) | (rw [if_neg (by decide +kernel)];exact ⟨rfl,rfl⟩))
  (fun os started H enc _=>sh os started H enc)
end Go.Proofs.YtihiooaimdoapaaGreat