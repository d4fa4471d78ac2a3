/- Proof texts, put together. -/
import Derived.Test.YtaipelimefpjlaaM4
noncomputable section
set_option linter.all false
set_option maxRecDepth 100000
/- gimbal/soft.Add. Printed by seat.py. -/
namespace Go.Ev.Try
open Go.Ev
def f35_j3 {α : Type} (call : Nat → List V → List Box → Heap → Option Res) (N n0 : Nat) (K0 : Int → Int → Heap → Option α) (x1213 : Int) (x1214 : Int) (b1215 : Bool) (x1216 : Int) (x1217 : Int) (h1218 : Heap) : Option α :=
  (Option.bind (call 39 [.one (.int .u64 x1213)] [] h1218) fun p1399 => (rB p1399.1 fun b1400 => (bN p1399.2.1 (let h1401 : Heap := (List.take (List.length h1218) p1399.2.2); (let x1402 : Int := (IntKind.wrap .i64 (x1214 - 64)); (Option.bind (call 46 [.one (.bool b1400), .agg [.int .u64 x1216, .int .u64 x1217], .one (.int .i64 x1402), .one (.bool b1215)] [] h1401) fun p1403 => (rT p1403.1 fun q1404 => (tL q1404 fun v1405 q1406 => (rI .u64 v1405 fun x1407 => (tL q1406 fun v1408 q1409 => (rI .u8 v1408 fun x1410 => (tN q1409 (bN p1403.2.1 (let h1411 : Heap := (List.take (List.length h1401) p1403.2.2); (K0 x1407 x1410 h1411)))))))))))))))
def f35_j2 {α : Type} (call : Nat → List V → List Box → Heap → Option Res) (N n0 : Nat) (K0 : Int → Int → Heap → Option α) (x1183 : Int) (x1184 : Int) (b1185 : Bool) (x1188 : Int) (x1189 : Int) (x1186 : Int) (x1187 : Int) (h1190 : Heap) : Option α :=
  (Option.bind (call 51 [.agg [.int .u64 x1188, .int .u64 x1189], .agg [.int .u64 x1186, .int .u64 x1187]] [] h1190) fun p1377 => (rT p1377.1 fun q1378 => (tL q1378 fun v1379 q1380 => (rA v1379 fun q1381 => (cI .u64 q1381 fun x1383 q1382 => (cI .u64 q1382 fun x1385 q1384 => (cN q1384 (tL q1380 fun v1386 q1387 => (rB v1386 fun b1388 => (tN q1387 (bN p1377.2.1 (let h1389 : Heap := (List.take (List.length h1190) p1377.2.2); (Option.bind (call 52 [.agg [.int .u64 x1383, .int .u64 x1385]] [] h1389) fun p1390 => (rB p1390.1 fun b1391 => (bN p1390.2.1 (let h1392 : Heap := (List.take (List.length h1389) p1390.2.2); (bif b1391 then (bif (!b1185) then (K0 0 0 h1392) else (f35_j3 call N n0 (fun x1393 x1394 h1395 => (K0 x1393 x1394 h1395)) x1183 x1184 b1185 x1383 x1385 h1392)) else (f35_j3 call N n0 (fun x1396 x1397 h1398 => (K0 x1396 x1397 h1398)) x1183 x1184 b1185 x1383 x1385 h1392))))))))))))))))))
def f35_j1 {α : Type} (call : Nat → List V → List Box → Heap → Option Res) (N n0 : Nat) (K0 : Int → Int → Heap → Option α) (x1079 : Int) (x1080 : Int) (h1081 : Heap) : Option α :=
  (Option.bind (call 45 [.one (.int .u64 x1079)] [] h1081) fun p1280 => (rT p1280.1 fun q1281 => (tL q1281 fun v1282 q1283 => (rI .u64 v1282 fun x1284 => (tL q1283 fun v1285 q1286 => (rI .i64 v1285 fun x1287 => (tN q1286 (bN p1280.2.1 (let h1288 : Heap := (List.take (List.length h1081) p1280.2.2); (Option.bind (call 45 [.one (.int .u64 x1080)] [] h1288) fun p1289 => (rT p1289.1 fun q1290 => (tL q1290 fun v1291 q1292 => (rI .u64 v1291 fun x1293 => (tL q1292 fun v1294 q1295 => (rI .i64 v1294 fun x1296 => (tN q1295 (bN p1289.2.1 (let h1297 : Heap := (List.take (List.length h1288) p1289.2.2); (Option.bind (call 48 [.agg [.int .u64 0, .int .u64 x1284], .one (.int .i64 64)] [] h1297) fun p1298 => (rA p1298.1 fun q1299 => (cI .u64 q1299 fun x1301 q1300 => (cI .u64 q1300 fun x1303 q1302 => (cN q1302 (bN p1298.2.1 (let h1304 : Heap := (List.take (List.length h1297) p1298.2.2); (Option.bind (call 48 [.agg [.int .u64 0, .int .u64 x1293], .one (.int .i64 64)] [] h1304) fun p1305 => (rA p1305.1 fun q1306 => (cI .u64 q1306 fun x1308 q1307 => (cI .u64 q1307 fun x1310 q1309 => (cN q1309 (bN p1305.2.1 (let h1311 : Heap := (List.take (List.length h1304) p1305.2.2); (let x1312 : Int := (IntKind.wrap .i64 (x1287 - x1296)); (Option.bind (call 49 [.agg [.int .u64 x1308, .int .u64 x1310], .one (.int .i64 x1312)] [] h1311) fun p1313 => (rT p1313.1 fun q1314 => (tL q1314 fun v1315 q1316 => (rA v1315 fun q1317 => (cI .u64 q1317 fun x1319 q1318 => (cI .u64 q1318 fun x1321 q1320 => (cN q1320 (tL q1316 fun v1322 q1323 => (rB v1322 fun b1324 => (tN q1323 (bN p1313.2.1 (let h1325 : Heap := (List.take (List.length h1311) p1313.2.2); (Option.bind (call 39 [.one (.int .u64 x1079)] [] h1325) fun p1326 => (rB p1326.1 fun b1327 => (bN p1326.2.1 (let h1328 : Heap := (List.take (List.length h1325) p1326.2.2); (Option.bind (call 39 [.one (.int .u64 x1080)] [] h1328) fun p1329 => (rB p1329.1 fun b1330 => (bN p1329.2.1 (let h1331 : Heap := (List.take (List.length h1328) p1329.2.2); (bif (b1327 == b1330) then (Option.bind (call 50 [.agg [.int .u64 x1301, .int .u64 x1303], .agg [.int .u64 x1319, .int .u64 x1321]] [] h1331) fun p1332 => (rT p1332.1 fun q1333 => (tL q1333 fun v1334 q1335 => (rA v1334 fun q1336 => (cI .u64 q1336 fun x1338 q1337 => (cI .u64 q1337 fun x1340 q1339 => (cN q1339 (tL q1335 fun v1341 q1342 => (rB v1341 fun b1343 => (tN q1342 (bN p1332.2.1 (let h1344 : Heap := (List.take (List.length h1331) p1332.2.2); (Option.bind (call 39 [.one (.int .u64 x1079)] [] h1344) fun p1345 => (rB p1345.1 fun b1346 => (bN p1345.2.1 (let h1347 : Heap := (List.take (List.length h1344) p1345.2.2); (let x1348 : Int := (IntKind.wrap .i64 (x1287 - 64)); (Option.bind (call 46 [.one (.bool b1346), .agg [.int .u64 x1338, .int .u64 x1340], .one (.int .i64 x1348), .one (.bool b1324)] [] h1347) fun p1349 => (rT p1349.1 fun q1350 => (tL q1350 fun v1351 q1352 => (rI .u64 v1351 fun x1353 => (tL q1352 fun v1354 q1355 => (rI .u8 v1354 fun x1356 => (tN q1355 (bN p1349.2.1 (let h1357 : Heap := (List.take (List.length h1347) p1349.2.2); (K0 x1353 x1356 h1357))))))))))))))))))))))))))) else (bif b1324 then (Option.bind (call 50 [.agg [.int .u64 x1319, .int .u64 x1321], .agg [.int .u64 0, .int .u64 1]] [] h1331) fun p1358 => (rT p1358.1 fun q1359 => (tL q1359 fun v1360 q1361 => (rA v1360 fun q1362 => (cI .u64 q1362 fun x1364 q1363 => (cI .u64 q1363 fun x1366 q1365 => (cN q1365 (tL q1361 fun v1367 q1368 => (rB v1367 fun b1369 => (tN q1368 (bN p1358.2.1 (let h1370 : Heap := (List.take (List.length h1331) p1358.2.2); (f35_j2 call N n0 (fun x1371 x1372 h1373 => (K0 x1371 x1372 h1373)) x1079 x1287 b1324 x1301 x1303 x1364 x1366 h1370))))))))))))) else (f35_j2 call N n0 (fun x1374 x1375 h1376 => (K0 x1374 x1375 h1376)) x1079 x1287 b1324 x1301 x1303 x1319 x1321 h1331))))))))))))))))))))))))))))))))))))))))))))))))))))))))
def f35_j0 {α : Type} (call : Nat → List V → List Box → Heap → Option Res) (N n0 : Nat) (K0 : Int → Int → Heap → Option α) (x1065 : Int) (x1066 : Int) (h1067 : Heap) : Option α :=
  (Option.bind (call 9 [.one (.int .u64 x1065)] [] h1067) fun p1268 => (rI .u64 p1268.1 fun x1269 => (bN p1268.2.1 (let h1270 : Heap := (List.take (List.length h1067) p1268.2.2); (Option.bind (call 9 [.one (.int .u64 x1066)] [] h1270) fun p1271 => (rI .u64 p1271.1 fun x1272 => (bN p1271.2.1 (let h1273 : Heap := (List.take (List.length h1270) p1271.2.2); (bif (decide (x1269 < x1272)) then (f35_j1 call N n0 (fun x1274 x1275 h1276 => (K0 x1274 x1275 h1276)) x1066 x1065 h1273) else (f35_j1 call N n0 (fun x1277 x1278 h1279 => (K0 x1277 x1278 h1279)) x1065 x1066 h1273))))))))))
def f35 (call : Nat → List V → List Box → Heap → Option Res) (N : Nat) (a1 : Int) (a2 : Int) (h0 : Heap) : Option Res :=
  (let h1412 : Heap := (h0 ++ [Blk.mem 2 [.int .u64 a1, .int .u64 a2]]); (Option.bind (call 44 [.one (.sl (List.length h0) 0 2 1)] [] h1412) fun p1413 => (rT p1413.1 fun q1414 => (tL q1414 fun v1415 q1416 => (rI .u64 v1415 fun x1417 => (tL q1416 fun v1418 q1419 => (rI .u8 v1418 fun x1420 => (tL q1419 fun v1421 q1422 => (rB v1421 fun b1423 => (tN q1422 (bN p1413.2.1 (let h1424 : Heap := (List.take (List.length h1412) p1413.2.2); (bif b1423 then (some (.tup [.one (.int .u64 x1417), .one (.int .u8 x1420)], [], h1424)) else (Option.bind (call 36 [.one (.int .u64 a1)] [] h1424) fun p1425 => (rI .i64 p1425.1 fun x1426 => (bN p1425.2.1 (let h1427 : Heap := (List.take (List.length h1424) p1425.2.2); (Option.bind (call 36 [.one (.int .u64 a2)] [] h1427) fun p1428 => (rI .i64 p1428.1 fun x1429 => (bN p1428.2.1 (let h1430 : Heap := (List.take (List.length h1427) p1428.2.2); (bif (x1426 == 4) then (bif (x1429 == 4) then (bif (a1 != a2) then (some (.tup [.one (.int .u64 9221120237041090560), .one (.int .u8 16)], [], h1430)) else (bif (x1426 == 4) then (some (.tup [.one (.int .u64 a1), .one (.int .u8 0)], [], h1430)) else (bif (x1429 == 4) then (some (.tup [.one (.int .u64 a2), .one (.int .u8 0)], [], h1430)) else (bif (x1426 == 1) then (bif (x1429 == 1) then (some (.tup [.one (.int .u64 (bitI .and .u64 a1 a2)), .one (.int .u8 0)], [], h1430)) else (bif (x1426 == 1) then (some (.tup [.one (.int .u64 a2), .one (.int .u8 0)], [], h1430)) else (bif (x1429 == 1) then (some (.tup [.one (.int .u64 a1), .one (.int .u8 0)], [], h1430)) else (f35_j0 call N (List.length h0) (fun x1431 x1432 h1433 => (some (.tup [.one (.int .u64 x1431), .one (.int .u8 x1432)], [], h1433))) a1 a2 h1430)))) else (bif (x1426 == 1) then (some (.tup [.one (.int .u64 a2), .one (.int .u8 0)], [], h1430)) else (bif (x1429 == 1) then (some (.tup [.one (.int .u64 a1), .one (.int .u8 0)], [], h1430)) else (f35_j0 call N (List.length h0) (fun x1434 x1435 h1436 => (some (.tup [.one (.int .u64 x1434), .one (.int .u8 x1435)], [], h1436))) a1 a2 h1430))))))) else (bif (x1426 == 4) then (some (.tup [.one (.int .u64 a1), .one (.int .u8 0)], [], h1430)) else (bif (x1429 == 4) then (some (.tup [.one (.int .u64 a2), .one (.int .u8 0)], [], h1430)) else (bif (x1426 == 1) then (bif (x1429 == 1) then (some (.tup [.one (.int .u64 (bitI .and .u64 a1 a2)), .one (.int .u8 0)], [], h1430)) else (bif (x1426 == 1) then (some (.tup [.one (.int .u64 a2), .one (.int .u8 0)], [], h1430)) else (bif (x1429 == 1) then (some (.tup [.one (.int .u64 a1), .one (.int .u8 0)], [], h1430)) else (f35_j0 call N (List.length h0) (fun x1437 x1438 h1439 => (some (.tup [.one (.int .u64 x1437), .one (.int .u8 x1438)], [], h1439))) a1 a2 h1430)))) else (bif (x1426 == 1) then (some (.tup [.one (.int .u64 a2), .one (.int .u8 0)], [], h1430)) else (bif (x1429 == 1) then (some (.tup [.one (.int .u64 a1), .one (.int .u8 0)], [], h1430)) else (f35_j0 call N (List.length h0) (fun x1440 x1441 h1442 => (some (.tup [.one (.int .u64 x1440), .one (.int .u8 x1441)], [], h1442))) a1 a2 h1430))))))) else (bif (x1426 == 4) then (some (.tup [.one (.int .u64 a1), .one (.int .u8 0)], [], h1430)) else (bif (x1429 == 4) then (some (.tup [.one (.int .u64 a2), .one (.int .u8 0)], [], h1430)) else (bif (x1426 == 1) then (bif (x1429 == 1) then (some (.tup [.one (.int .u64 (bitI .and .u64 a1 a2)), .one (.int .u8 0)], [], h1430)) else (bif (x1426 == 1) then (some (.tup [.one (.int .u64 a2), .one (.int .u8 0)], [], h1430)) else (bif (x1429 == 1) then (some (.tup [.one (.int .u64 a1), .one (.int .u8 0)], [], h1430)) else (f35_j0 call N (List.length h0) (fun x1443 x1444 h1445 => (some (.tup [.one (.int .u64 x1443), .one (.int .u8 x1444)], [], h1445))) a1 a2 h1430)))) else (bif (x1426 == 1) then (some (.tup [.one (.int .u64 a2), .one (.int .u8 0)], [], h1430)) else (bif (x1429 == 1) then (some (.tup [.one (.int .u64 a1), .one (.int .u8 0)], [], h1430)) else (f35_j0 call N (List.length h0) (fun x1446 x1447 h1448 => (some (.tup [.one (.int .u64 x1446), .one (.int .u8 x1447)], [], h1448))) a1 a2 h1430))))))))))))))))))))))))))))
def f35_j3_c (call : Nat → List V → List Box → Heap → Option Res) (N : Nat) : Cut := { fr := [true, false, false, false, false, false, false, false, false, false, false, false, true, false, false, false, false, true, false, false, true, false, false, false, false, false, false, false, false, false, false, false, false, false, false, false, false, false, false, false, false, false, false, false, false, false, false, false, false, false, false, false, false, false, false, false, false, false, false, false, false, false, false, false, false, false, false, false, false, false, false, false, false, false, false, false, false, false, false, false, false, false, false, false, false, false, false, false, false, false, false, false, false, false, false, false, false, false, false, false, false, false, false, false, false, false, false, false, false, false, false, false, false, false, false, false, false, false, false, false, false, false, false, false, false, false, false, false, false, false, false, false, false, false, false, false, false, false, false, false, false, false, false, false, false, false, false, false, false, false, false, false, false], bx := [false, false, false, false, false, false, false, false, false, false, false, false, false, false, false, false, false, false, false, false, true, false, false, false, false, false, false, false, false, false, false, false, false, false, false, false, false, false, false, false, false, false, false, false, false, false, false, false, false, false, false, false, false, false, false, false, false, false, false, false, false, false, false, false, false, false, false, false, false, false, false, false, false, false, false, false, false, false, false, false, false, false, false, false, false, false, false, false, false, false, false, false, false, false, false, false, false, false, false, false, false, false, false, false, false, false, false, false, false, false, false, false, false, false, false, false, false, false, false, false, false, false, false, false, false, false, false, false, false, false, false, false, false, false, false, false, false, false, false, false, false, false, false, false, false, false, false, false, false, false, false, false, false], run := fun α vs bs R h n0 K => match vs, bs, R with | [.one (.int .u64 x1213), .one (.int .i64 x1214), .one (.bool b1215), .ptr (.loc 20 0)], [some (81, [.int .u64 x1216, .int .u64 x1217])], [] => f35_j3 call N n0 (fun x1265 x1266 h1267 => K .ret (stF [false, false, false, false, true, true, false, false, false, false, false, false, false, false, false, false, false, false, false, false, false, false, false, false, false, false, false, false, false, false, false, false, false, false, false, false, false, false, false, false, false, false, false, false, false, false, false, false, false, false, false, false, false, false, false, false, false, false, false, false, false, false, false, false, false, false, false, false, false, false, false, false, false, false, false, false, false, false, false, false, false, false, false, false, false, false, false, false, false, false, false, false, false, false, false, false, false, false, false, false, false, false, false, false, false, false, false, false, false, false, false, false, false, false, false, false, false, false, false, false, false, false, false, false, false, false, false, false, false, false, false, false, false, false, false, false, false, false, false, false, false, false, false, false, false, false, false, false, false, false, false, false, false] [false, false, false, false, false, false, false, false, false, false, false, false, false, false, false, false, false, false, false, false, false, false, false, false, false, false, false, false, false, false, false, false, false, false, false, false, false, false, false, false, false, false, false, false, false, false, false, false, false, false, false, false, false, false, false, false, false, false, false, false, false, false, false, false, false, false, false, false, false, false, false, false, false, false, false, false, false, false, false, false, false, false, false, false, false, false, false, false, false, false, false, false, false, false, false, false, false, false, false, false, false, false, false, false, false, false, false, false, false, false, false, false, false, false, false, false, false, false, false, false, false, false, false, false, false, false, false, false, false, false, false, false, false, false, false, false, false, false, false, false, false, false, false, false, false, false, false, false, false, false, false, false, false] [.one (.int .u64 x1265), .one (.int .u8 x1266)] [] [] h1267 n0)) x1213 x1214 b1215 x1216 x1217 h | _, _, _ => none }
def f35_j2_c (call : Nat → List V → List Box → Heap → Option Res) (N : Nat) : Cut := { fr := [true, false, false, false, false, false, false, false, false, false, false, false, true, false, false, true, true, true, false, false, false, false, false, false, false, false, false, false, false, false, false, false, false, false, false, false, false, false, false, false, false, false, false, false, false, false, false, false, false, false, false, false, false, false, false, false, false, false, false, false, false, false, false, false, false, false, false, false, false, false, false, false, false, false, false, false, false, false, false, false, false, false, false, false, false, false, false, false, false, false, false, false, false, false, false, false, false, false, false, false, false, false, false, false, false, false, false, false, false, false, false, false, false, false, false, false, false, false, false, false, false, false, false, false, false, false, false, false, false, false, false, false, false, false, false, false, false, false, false, false, false, false, false, false, false, false, false, false, false, false, false, false, false], bx := [false, false, false, false, false, false, false, false, false, false, false, false, false, false, false, true, true, false, false, false, false, false, false, false, false, false, false, false, false, false, false, false, false, false, false, false, false, false, false, false, false, false, false, false, false, false, false, false, false, false, false, false, false, false, false, false, false, false, false, false, false, false, false, false, false, false, false, false, false, false, false, false, false, false, false, false, false, false, false, false, false, false, false, false, false, false, false, false, false, false, false, false, false, false, false, false, false, false, false, false, false, false, false, false, false, false, false, false, false, false, false, false, false, false, false, false, false, false, false, false, false, false, false, false, false, false, false, false, false, false, false, false, false, false, false, false, false, false, false, false, false, false, false, false, false, false, false, false, false, false, false, false, false], run := fun α vs bs R h n0 K => match vs, bs, R with | [.one (.int .u64 x1183), .one (.int .i64 x1184), .ptr (.loc 15 0), .ptr (.loc 16 0), .one (.bool b1185)], [some (81, [.int .u64 x1188, .int .u64 x1189]), some (81, [.int .u64 x1186, .int .u64 x1187])], [] => f35_j2 call N n0 (fun x1262 x1263 h1264 => K .ret (stF [false, false, false, false, true, true, false, false, false, false, false, false, false, false, false, false, false, false, false, false, false, false, false, false, false, false, false, false, false, false, false, false, false, false, false, false, false, false, false, false, false, false, false, false, false, false, false, false, false, false, false, false, false, false, false, false, false, false, false, false, false, false, false, false, false, false, false, false, false, false, false, false, false, false, false, false, false, false, false, false, false, false, false, false, false, false, false, false, false, false, false, false, false, false, false, false, false, false, false, false, false, false, false, false, false, false, false, false, false, false, false, false, false, false, false, false, false, false, false, false, false, false, false, false, false, false, false, false, false, false, false, false, false, false, false, false, false, false, false, false, false, false, false, false, false, false, false, false, false, false, false, false, false] [false, false, false, false, false, false, false, false, false, false, false, false, false, false, false, false, false, false, false, false, false, false, false, false, false, false, false, false, false, false, false, false, false, false, false, false, false, false, false, false, false, false, false, false, false, false, false, false, false, false, false, false, false, false, false, false, false, false, false, false, false, false, false, false, false, false, false, false, false, false, false, false, false, false, false, false, false, false, false, false, false, false, false, false, false, false, false, false, false, false, false, false, false, false, false, false, false, false, false, false, false, false, false, false, false, false, false, false, false, false, false, false, false, false, false, false, false, false, false, false, false, false, false, false, false, false, false, false, false, false, false, false, false, false, false, false, false, false, false, false, false, false, false, false, false, false, false, false, false, false, false, false, false] [.one (.int .u64 x1262), .one (.int .u8 x1263)] [] [] h1264 n0)) x1183 x1184 b1185 x1188 x1189 x1186 x1187 h | _, _, _ => none }
def f35_j1_c (call : Nat → List V → List Box → Heap → Option Res) (N : Nat) : Cut := { fr := [true, true, false, false, false, false, false, false, false, false, false, false, false, false, false, false, false, false, false, false, false, false, false, false, false, false, false, false, false, false, false, false, false, false, false, false, false, false, false, false, false, false, false, false, false, false, false, false, false, false, false, false, false, false, false, false, false, false, false, false, false, false, false, false, false, false, false, false, false, false, false, false, false, false, false, false, false, false, false, false, false, false, false, false, false, false, false, false, false, false, false, false, false, false, false, false, false, false, false, false, false, false, false, false, false, false, false, false, false, false, false, false, false, false, false, false, false, false, false, false, false, false, false, false, false, false, false, false, false, false, false, false, false, false, false, false, false, false, false, false, false, false, false, false, false, false, false, false, false, false, false, false, false], bx := [false, false, false, false, false, false, false, false, false, false, false, false, false, false, false, false, false, false, false, false, false, false, false, false, false, false, false, false, false, false, false, false, false, false, false, false, false, false, false, false, false, false, false, false, false, false, false, false, false, false, false, false, false, false, false, false, false, false, false, false, false, false, false, false, false, false, false, false, false, false, false, false, false, false, false, false, false, false, false, false, false, false, false, false, false, false, false, false, false, false, false, false, false, false, false, false, false, false, false, false, false, false, false, false, false, false, false, false, false, false, false, false, false, false, false, false, false, false, false, false, false, false, false, false, false, false, false, false, false, false, false, false, false, false, false, false, false, false, false, false, false, false, false, false, false, false, false, false, false, false, false, false, false], run := fun α vs bs R h n0 K => match vs, bs, R with | [.one (.int .u64 x1079), .one (.int .u64 x1080)], [], [] => f35_j1 call N n0 (fun x1259 x1260 h1261 => K .ret (stF [false, false, false, false, true, true, false, false, false, false, false, false, false, false, false, false, false, false, false, false, false, false, false, false, false, false, false, false, false, false, false, false, false, false, false, false, false, false, false, false, false, false, false, false, false, false, false, false, false, false, false, false, false, false, false, false, false, false, false, false, false, false, false, false, false, false, false, false, false, false, false, false, false, false, false, false, false, false, false, false, false, false, false, false, false, false, false, false, false, false, false, false, false, false, false, false, false, false, false, false, false, false, false, false, false, false, false, false, false, false, false, false, false, false, false, false, false, false, false, false, false, false, false, false, false, false, false, false, false, false, false, false, false, false, false, false, false, false, false, false, false, false, false, false, false, false, false, false, false, false, false, false, false] [false, false, false, false, false, false, false, false, false, false, false, false, false, false, false, false, false, false, false, false, false, false, false, false, false, false, false, false, false, false, false, false, false, false, false, false, false, false, false, false, false, false, false, false, false, false, false, false, false, false, false, false, false, false, false, false, false, false, false, false, false, false, false, false, false, false, false, false, false, false, false, false, false, false, false, false, false, false, false, false, false, false, false, false, false, false, false, false, false, false, false, false, false, false, false, false, false, false, false, false, false, false, false, false, false, false, false, false, false, false, false, false, false, false, false, false, false, false, false, false, false, false, false, false, false, false, false, false, false, false, false, false, false, false, false, false, false, false, false, false, false, false, false, false, false, false, false, false, false, false, false, false, false] [.one (.int .u64 x1259), .one (.int .u8 x1260)] [] [] h1261 n0)) x1079 x1080 h | _, _, _ => none }
def f35_j0_c (call : Nat → List V → List Box → Heap → Option Res) (N : Nat) : Cut := { fr := [true, true, false, false, false, false, false, false, false, false, false, false, false, false, false, false, false, false, false, false, false, false, false, false, false, false, false, false, false, false, false, false, false, false, false, false, false, false, false, false, false, false, false, false, false, false, false, false, false, false, false, false, false, false, false, false, false, false, false, false, false, false, false, false, false, false, false, false, false, false, false, false, false, false, false, false, false, false, false, false, false, false, false, false, false, false, false, false, false, false, false, false, false, false, false, false, false, false, false, false, false, false, false, false, false, false, false, false, false, false, false, false, false, false, false, false, false, false, false, false, false, false, false, false, false, false, false, false, false, false, false, false, false, false, false, false, false, false, false, false, false, false, false, false, false, false, false, false, false, false, false, false, false], bx := [false, false, false, false, false, false, false, false, false, false, false, false, false, false, false, false, false, false, false, false, false, false, false, false, false, false, false, false, false, false, false, false, false, false, false, false, false, false, false, false, false, false, false, false, false, false, false, false, false, false, false, false, false, false, false, false, false, false, false, false, false, false, false, false, false, false, false, false, false, false, false, false, false, false, false, false, false, false, false, false, false, false, false, false, false, false, false, false, false, false, false, false, false, false, false, false, false, false, false, false, false, false, false, false, false, false, false, false, false, false, false, false, false, false, false, false, false, false, false, false, false, false, false, false, false, false, false, false, false, false, false, false, false, false, false, false, false, false, false, false, false, false, false, false, false, false, false, false, false, false, false, false, false], run := fun α vs bs R h n0 K => match vs, bs, R with | [.one (.int .u64 x1065), .one (.int .u64 x1066)], [], [] => f35_j0 call N n0 (fun x1256 x1257 h1258 => K .ret (stF [false, false, false, false, true, true, false, false, false, false, false, false, false, false, false, false, false, false, false, false, false, false, false, false, false, false, false, false, false, false, false, false, false, false, false, false, false, false, false, false, false, false, false, false, false, false, false, false, false, false, false, false, false, false, false, false, false, false, false, false, false, false, false, false, false, false, false, false, false, false, false, false, false, false, false, false, false, false, false, false, false, false, false, false, false, false, false, false, false, false, false, false, false, false, false, false, false, false, false, false, false, false, false, false, false, false, false, false, false, false, false, false, false, false, false, false, false, false, false, false, false, false, false, false, false, false, false, false, false, false, false, false, false, false, false, false, false, false, false, false, false, false, false, false, false, false, false, false, false, false, false, false, false] [false, false, false, false, false, false, false, false, false, false, false, false, false, false, false, false, false, false, false, false, false, false, false, false, false, false, false, false, false, false, false, false, false, false, false, false, false, false, false, false, false, false, false, false, false, false, false, false, false, false, false, false, false, false, false, false, false, false, false, false, false, false, false, false, false, false, false, false, false, false, false, false, false, false, false, false, false, false, false, false, false, false, false, false, false, false, false, false, false, false, false, false, false, false, false, false, false, false, false, false, false, false, false, false, false, false, false, false, false, false, false, false, false, false, false, false, false, false, false, false, false, false, false, false, false, false, false, false, false, false, false, false, false, false, false, false, false, false, false, false, false, false, false, false, false, false, false, false, false, false, false, false, false] [.one (.int .u64 x1256), .one (.int .u8 x1257)] [] [] h1258 n0)) x1065 x1066 h | _, _, _ => none }
noncomputable def f35_root : Code := Go.Proofs.Try.f35.body.getD .skip
theorem f35_j3_ok (call : Nat → List V → List Box → Heap → Option Res) (N : Nat) (hN : 64 ≤ N) : CutOK E.tab E.gd call (E.scr 35) N (f35_j3_c call N) (codeAt f35_root [1, 1, 1, 1, 1, 1, 1, 1, 1, 1, 1, 1, 1]) := by
  refine join_ok hN cutL_nil ?_
  intro α vs bs R H n0 K y h
  simp only [f35_j3_c] at h
  split at h
  · exact Eq.trans (by kernel_rfl) h
  · cases h
def f35_t0 (call : Nat → List V → List Box → Heap → Option Res) (N : Nat) : List (List Nat × Cut) := ([1, 1, 1, 1, 1, 1, 1, 1, 1, 1, 1, 1, 1], f35_j3_c call N) :: []
theorem f35_ok0 (call : Nat → List V → List Box → Heap → Option Res) (N : Nat) (hN : 64 ≤ N) : CutsOK E.tab E.gd call (E.scr 35) N (cutL (f35_t0 call N)) f35_root := cutL_cons (f35_j3_ok call N hN) cutL_nil
theorem f35_j2_ok (call : Nat → List V → List Box → Heap → Option Res) (N : Nat) (hN : 64 ≤ N) : CutOK E.tab E.gd call (E.scr 35) N (f35_j2_c call N) (codeAt f35_root [1, 1, 1, 1, 1, 1, 1, 1, 1, 1, 1]) := by
  refine join_ok hN (f35_ok0 call N hN) ?_
  intro α vs bs R H n0 K y h
  simp only [f35_j2_c] at h
  split at h
  · exact Eq.trans (by kernel_rfl) h
  · cases h
def f35_t1 (call : Nat → List V → List Box → Heap → Option Res) (N : Nat) : List (List Nat × Cut) := ([1, 1, 1, 1, 1, 1, 1, 1, 1, 1, 1], f35_j2_c call N) :: f35_t0 call N
theorem f35_ok1 (call : Nat → List V → List Box → Heap → Option Res) (N : Nat) (hN : 64 ≤ N) : CutsOK E.tab E.gd call (E.scr 35) N (cutL (f35_t1 call N)) f35_root := cutL_cons (f35_j2_ok call N hN) (f35_ok0 call N hN)
theorem f35_j1_ok (call : Nat → List V → List Box → Heap → Option Res) (N : Nat) (hN : 64 ≤ N) : CutOK E.tab E.gd call (E.scr 35) N (f35_j1_c call N) (codeAt f35_root [1, 1, 1, 1, 1]) := by
  refine join_ok hN (f35_ok1 call N hN) ?_
  intro α vs bs R H n0 K y h
  simp only [f35_j1_c] at h
  split at h
  · exact Eq.trans (by kernel_rfl) h
  · cases h
def f35_t2 (call : Nat → List V → List Box → Heap → Option Res) (N : Nat) : List (List Nat × Cut) := ([1, 1, 1, 1, 1], f35_j1_c call N) :: f35_t1 call N
theorem f35_ok2 (call : Nat → List V → List Box → Heap → Option Res) (N : Nat) (hN : 64 ≤ N) : CutsOK E.tab E.gd call (E.scr 35) N (cutL (f35_t2 call N)) f35_root := cutL_cons (f35_j1_ok call N hN) (f35_ok1 call N hN)
theorem f35_j0_ok (call : Nat → List V → List Box → Heap → Option Res) (N : Nat) (hN : 64 ≤ N) : CutOK E.tab E.gd call (E.scr 35) N (f35_j0_c call N) (codeAt f35_root [1, 1, 1, 1]) := by
  refine join_ok hN (f35_ok2 call N hN) ?_
  intro α vs bs R H n0 K y h
  simp only [f35_j0_c] at h
  split at h
  · exact Eq.trans (by kernel_rfl) h
  · cases h
def f35_t3 (call : Nat → List V → List Box → Heap → Option Res) (N : Nat) : List (List Nat × Cut) := ([1, 1, 1, 1], f35_j0_c call N) :: f35_t2 call N
theorem f35_ok3 (call : Nat → List V → List Box → Heap → Option Res) (N : Nat) (hN : 64 ≤ N) : CutsOK E.tab E.gd call (E.scr 35) N (cutL (f35_t3 call N)) f35_root := cutL_cons (f35_j0_ok call N hN) (f35_ok2 call N hN)
theorem f35_eq (call : Nat → List V → List Box → Heap → Option Res) (N : Nat) (a1 : Int) (a2 : Int) (h0 : Heap) : evF E call 35 (cutL (f35_t3 call N)) [.one (.int .u64 a1), .one (.int .u64 a2)] [] h0 = f35 call N a1 a2 h0 := by kernel_rfl
theorem f35_le {d : Nat} {a1 : Int} {a2 : Int} {h0 : Heap} {r : Res} (h : f35 (ev E d) E.N a1 a2 h0 = some r) : ev E (d + 1) 35 [.one (.int .u64 a1), .one (.int .u64 a2)] [] h0 = some r := by
  have hN : 64 ≤ E.N := by decide
  rw [← f35_eq] at h
  exact evF_le hN (f := 35) (by kernel_rfl) (fn := Go.Proofs.Try.f35) (c := f35_root) Go.Proofs.Try.func35 (by kernel_rfl) (f35_ok3 (ev E d) E.N hN) h
end Go.Ev.Try
end

noncomputable section
set_option linter.all false
set_option maxRecDepth 100000
/- gimbal/word.Kind. Printed by seat.py. -/
namespace Go.Ev.Try
open Go.Ev
def f36 (call : Nat → List V → List Box → Heap → Option Res) (N : Nat) (a1 : Int) (h0 : Heap) : Option Res :=
  (Option.bind (call 40 [.one (.int .u64 a1)] [] h0) fun p1021 => (rI .i64 p1021.1 fun x1022 => (bN p1021.2.1 (let h1023 : Heap := (List.take (List.length h0) p1021.2.2); (Option.bind (call 53 [.one (.int .u64 a1)] [] h1023) fun p1024 => (rI .u64 p1024.1 fun x1025 => (bN p1024.2.1 (let h1026 : Heap := (List.take (List.length h1023) p1024.2.2); (bif (x1022 == 0) then (bif (x1025 == 0) then (some (.one (.int .i64 1), [], h1026)) else (bif (x1022 == 0) then (some (.one (.int .i64 2), [], h1026)) else (bif (decide (x1022 < 2047)) then (some (.one (.int .i64 3), [], h1026)) else (bif (x1025 == 0) then (some (.one (.int .i64 4), [], h1026)) else (some (.one (.int .i64 5), [], h1026)))))) else (bif (x1022 == 0) then (some (.one (.int .i64 2), [], h1026)) else (bif (decide (x1022 < 2047)) then (some (.one (.int .i64 3), [], h1026)) else (bif (x1025 == 0) then (some (.one (.int .i64 4), [], h1026)) else (some (.one (.int .i64 5), [], h1026))))))))))))))
noncomputable def f36_root : Code := Go.Proofs.Try.f36.body.getD .skip
theorem f36_eq (call : Nat → List V → List Box → Heap → Option Res) (N : Nat) (a1 : Int) (h0 : Heap) : evF E call 36 (cutL []) [.one (.int .u64 a1)] [] h0 = f36 call N a1 h0 := by kernel_rfl
theorem f36_le {d : Nat} {a1 : Int} {h0 : Heap} {r : Res} (h : f36 (ev E d) E.N a1 h0 = some r) : ev E (d + 1) 36 [.one (.int .u64 a1)] [] h0 = some r := by
  have hN : 64 ≤ E.N := by decide
  rw [← f36_eq] at h
  exact evF_le hN (f := 36) (by kernel_rfl) (fn := Go.Proofs.Try.f36) (c := f36_root) Go.Proofs.Try.func36 (by kernel_rfl) cutL_nil h
end Go.Ev.Try
end

noncomputable section
set_option linter.all false
set_option maxRecDepth 100000
/- gimbal/word.Neg. Printed by seat.py. -/
namespace Go.Ev.Try
open Go.Ev
def f39 (call : Nat → List V → List Box → Heap → Option Res) (N : Nat) (a1 : Int) (h0 : Heap) : Option Res :=
  (some (.one (.bool ((shrI .u64 a1 63) == 1)), [], h0))
noncomputable def f39_root : Code := Go.Proofs.Try.f39.body.getD .skip
theorem f39_eq (call : Nat → List V → List Box → Heap → Option Res) (N : Nat) (a1 : Int) (h0 : Heap) : evF E call 39 (cutL []) [.one (.int .u64 a1)] [] h0 = f39 call N a1 h0 := by kernel_rfl
theorem f39_le {d : Nat} {a1 : Int} {h0 : Heap} {r : Res} (h : f39 (ev E d) E.N a1 h0 = some r) : ev E (d + 1) 39 [.one (.int .u64 a1)] [] h0 = some r := by
  have hN : 64 ≤ E.N := by decide
  rw [← f39_eq] at h
  exact evF_le hN (f := 39) (by kernel_rfl) (fn := Go.Proofs.Try.f39) (c := f39_root) Go.Proofs.Try.func39 (by kernel_rfl) cutL_nil h
end Go.Ev.Try
end

noncomputable section
set_option linter.all false
set_option maxRecDepth 100000
/- gimbal/word.Exp. Printed by seat.py. -/
namespace Go.Ev.Try
open Go.Ev
def f40 (call : Nat → List V → List Box → Heap → Option Res) (N : Nat) (a1 : Int) (h0 : Heap) : Option Res :=
  (let x1003 : Int := (bitI .and .u64 (shrI .u64 a1 52) 2047); (let x1004 : Int := (IntKind.wrap .i64 x1003); (some (.one (.int .i64 x1004), [], h0))))
noncomputable def f40_root : Code := Go.Proofs.Try.f40.body.getD .skip
theorem f40_eq (call : Nat → List V → List Box → Heap → Option Res) (N : Nat) (a1 : Int) (h0 : Heap) : evF E call 40 (cutL []) [.one (.int .u64 a1)] [] h0 = f40 call N a1 h0 := by kernel_rfl
theorem f40_le {d : Nat} {a1 : Int} {h0 : Heap} {r : Res} (h : f40 (ev E d) E.N a1 h0 = some r) : ev E (d + 1) 40 [.one (.int .u64 a1)] [] h0 = some r := by
  have hN : 64 ≤ E.N := by decide
  rw [← f40_eq] at h
  exact evF_le hN (f := 40) (by kernel_rfl) (fn := Go.Proofs.Try.f40) (c := f40_root) Go.Proofs.Try.func40 (by kernel_rfl) cutL_nil h
end Go.Ev.Try
end

noncomputable section
set_option linter.all false
set_option maxRecDepth 100000
/- gimbal/more.Scale. Printed by seat.py. -/
namespace Go.Ev.Try
open Go.Ev
def f41 (call : Nat → List V → List Box → Heap → Option Res) (N : Nat) (a1 : Int) (a2 : Int) (h0 : Heap) : Option Res :=
  (Option.bind (call 36 [.one (.int .u64 a1)] [] h0) fun p1039 => (rI .i64 p1039.1 fun x1040 => (bN p1039.2.1 (let h1041 : Heap := (List.take (List.length h0) p1039.2.2); (bif (x1040 == 5) then (Option.bind (call 56 [.one (.int .u64 a1)] [] h1041) fun p1042 => (rB p1042.1 fun b1043 => (bN p1042.2.1 (let h1044 : Heap := (List.take (List.length h1041) p1042.2.2); (bif b1043 then (some (.tup [.one (.int .u64 9221120237041090560), .one (.int .u8 16)], [], h1044)) else (some (.tup [.one (.int .u64 9221120237041090560), .one (.int .u8 0)], [], h1044))))))) else (bif (x1040 == 4) then (some (.tup [.one (.int .u64 a1), .one (.int .u8 0)], [], h1041)) else (bif (x1040 == 1) then (some (.tup [.one (.int .u64 a1), .one (.int .u8 0)], [], h1041)) else (Option.bind (call 45 [.one (.int .u64 a1)] [] h1041) fun p1045 => (rT p1045.1 fun q1046 => (tL q1046 fun v1047 q1048 => (rI .u64 v1047 fun x1049 => (tL q1048 fun v1050 q1051 => (rI .i64 v1050 fun x1052 => (tN q1051 (bN p1045.2.1 (let h1053 : Heap := (List.take (List.length h1041) p1045.2.2); (Option.bind (call 39 [.one (.int .u64 a1)] [] h1053) fun p1054 => (rB p1054.1 fun b1055 => (bN p1054.2.1 (let h1056 : Heap := (List.take (List.length h1053) p1054.2.2); (let x1057 : Int := (maxN (-10000) (minN a2 10000)); (let x1058 : Int := (IntKind.wrap .i64 (x1052 + x1057)); (Option.bind (call 46 [.one (.bool b1055), .agg [.int .u64 0, .int .u64 x1049], .one (.int .i64 x1058), .one (.bool false)] [] h1056) fun p1059 => (rT p1059.1 fun q1060 => (tL q1060 fun v1061 q1062 => (rI .u64 v1061 fun x1063 => (tL q1062 fun v1064 q1065 => (rI .u8 v1064 fun x1066 => (tN q1065 (bN p1059.2.1 (let h1067 : Heap := (List.take (List.length h1056) p1059.2.2); (some (.tup [.one (.int .u64 x1063), .one (.int .u8 x1066)], [], h1067)))))))))))))))))))))))))))))))))
noncomputable def f41_root : Code := Go.Proofs.Try.f41.body.getD .skip
theorem f41_eq (call : Nat → List V → List Box → Heap → Option Res) (N : Nat) (a1 : Int) (a2 : Int) (h0 : Heap) : evF E call 41 (cutL []) [.one (.int .u64 a1), .one (.int .i64 a2)] [] h0 = f41 call N a1 a2 h0 := by kernel_rfl
theorem f41_le {d : Nat} {a1 : Int} {a2 : Int} {h0 : Heap} {r : Res} (h : f41 (ev E d) E.N a1 a2 h0 = some r) : ev E (d + 1) 41 [.one (.int .u64 a1), .one (.int .i64 a2)] [] h0 = some r := by
  have hN : 64 ≤ E.N := by decide
  rw [← f41_eq] at h
  exact evF_le hN (f := 41) (by kernel_rfl) (fn := Go.Proofs.Try.f41) (c := f41_root) Go.Proofs.Try.func41 (by kernel_rfl) cutL_nil h
end Go.Ev.Try
end

noncomputable section
set_option linter.all false
set_option maxRecDepth 100000
/- gimbal/soft.nan. Printed by seat.py. -/
namespace Go.Ev.Try
open Go.Ev
def f44_l0 {α : Type} (call : Nat → List V → List Box → Heap → Option Res) (N n0 : Nat) (K0 : Int → Bool → Heap → Option α) : Nat → Int → Bool → C → Int → Int → Heap → Option α
  | 0, _, _, _, _, _, _ => none
  | k + 1, x1028, b1029, c1030, x1031, x1032, h1033 => (bif (decide (x1032 < x1031)) then (eltK c1030 1 x1032 fun i1065 i1066 => (rdE h1033 i1065 i1066 1 fun q1067 => (cI .u64 q1067 fun x1069 q1068 => (cN q1068 (Option.bind (call 36 [.one (.int .u64 x1069)] [] h1033) fun p1070 => (rI .i64 p1070.1 fun x1071 => (bN p1070.2.1 (let h1072 : Heap := (List.take (List.length h1033) p1070.2.2); (bif (x1071 == 5) then (Option.bind (call 56 [.one (.int .u64 x1069)] [] h1072) fun p1073 => (rB p1073.1 fun b1074 => (bN p1073.2.1 (let h1075 : Heap := (List.take (List.length h1072) p1073.2.2); (bif b1074 then (let x1076 : Int := (IntKind.wrap .i64 (x1032 + 1)); (f44_l0 call N n0 K0 k 16 true c1030 x1031 x1076 h1075)) else (let x1077 : Int := (IntKind.wrap .i64 (x1032 + 1)); (f44_l0 call N n0 K0 k x1028 true c1030 x1031 x1077 h1075))))))) else (let x1078 : Int := (IntKind.wrap .i64 (x1032 + 1)); (f44_l0 call N n0 K0 k x1028 b1029 c1030 x1031 x1078 h1072))))))))))) else (K0 x1028 b1029 h1033))
def f44 (call : Nat → List V → List Box → Heap → Option Res) (N : Nat) (a1 : C) (h0 : Heap) : Option Res :=
  (lenK a1 fun x1079 => (f44_l0 call N (List.length h0) (fun x1080 b1081 h1082 => (some (.tup [.one (.int .u64 9221120237041090560), .one (.int .u8 x1080), .one (.bool b1081)], [], h1082))) N 0 false a1 x1079 0 h0))
def f44_l0_c (call : Nat → List V → List Box → Heap → Option Res) (N : Nat) (k : Nat) : Cut := { fr := [false, false, false, false, false, true, true, false, false, true, true, true, false, false, false, false, false, false, false, false, false, false, false], bx := [false, false, false, false, false, false, false, false, false, false, false, false, false, false, false, false, false, false, false, false, false, false, false], run := fun α vs bs R h n0 K => match vs, bs, R with | [.one (.int .u8 x1028), .one (.bool b1029), .one c1030, .one (.int .i64 x1031), .one (.int .i64 x1032)], [], [] => f44_l0 call N n0 (fun x1062 b1063 h1064 => K (.exit 0) (stF [false, false, false, false, false, true, true, false, false, false, false, false, false, false, false, false, false, false, false, false, false, false, false] [false, false, false, false, false, false, false, false, false, false, false, false, false, false, false, false, false, false, false, false, false, false, false] [.one (.int .u8 x1062), .one (.bool b1063)] [] [] h1064 n0)) k x1028 b1029 c1030 x1031 x1032 h | _, _, _ => none }
noncomputable def f44_root : Code := Go.Proofs.Try.f44.body.getD .skip
theorem f44_l0_ok (call : Nat → List V → List Box → Heap → Option Res) (N : Nat) (hN : 64 ≤ N) : CutOK E.tab E.gd call (E.scr 44) N (f44_l0_c call N N) (codeAt f44_root [2, 0, 1, 0, 1, 1, 1]) := by
  refine loop_ok hN cutL_nil (p := [0, 1, 0, 1, 1, 1]) (c := codeAt f44_root [0, 0, 1, 0, 1, 1, 1]) (by kernel_rfl) (f44_l0_c call N) ?_ ?_ ?_
  · intro α vs bs R H n0 K; simp only [f44_l0_c]; split <;> rfl
  · intro n; exact ⟨rfl, rfl⟩
  · intro n α vs bs R H n0 K y h
    simp only [f44_l0_c] at h
    split at h
    · exact Eq.trans (by kernel_rfl) h
    · cases h
def f44_t0 (call : Nat → List V → List Box → Heap → Option Res) (N : Nat) : List (List Nat × Cut) := ([2, 0, 1, 0, 1, 1, 1], f44_l0_c call N N) :: []
theorem f44_ok0 (call : Nat → List V → List Box → Heap → Option Res) (N : Nat) (hN : 64 ≤ N) : CutsOK E.tab E.gd call (E.scr 44) N (cutL (f44_t0 call N)) f44_root := cutL_cons (f44_l0_ok call N hN) cutL_nil
theorem f44_eq (call : Nat → List V → List Box → Heap → Option Res) (N : Nat) (a1 : C) (h0 : Heap) : evF E call 44 (cutL (f44_t0 call N)) [.one a1] [] h0 = f44 call N a1 h0 := by kernel_rfl
theorem f44_le {d : Nat} {a1 : C} {h0 : Heap} {r : Res} (h : f44 (ev E d) E.N a1 h0 = some r) : ev E (d + 1) 44 [.one a1] [] h0 = some r := by
  have hN : 64 ≤ E.N := by decide
  rw [← f44_eq] at h
  exact evF_le hN (f := 44) (by kernel_rfl) (fn := Go.Proofs.Try.f44) (c := f44_root) Go.Proofs.Try.func44 (by kernel_rfl) (f44_ok0 (ev E d) E.N hN) h
end Go.Ev.Try
end

noncomputable section
set_option linter.all false
set_option maxRecDepth 100000
/- gimbal/word.Parts. Printed by seat.py. -/
namespace Go.Ev.Try
open Go.Ev
def f45 (call : Nat → List V → List Box → Heap → Option Res) (N : Nat) (a1 : Int) (h0 : Heap) : Option Res :=
  (Option.bind (call 36 [.one (.int .u64 a1)] [] h0) fun p1021 => (rI .i64 p1021.1 fun x1022 => (bN p1021.2.1 (let h1023 : Heap := (List.take (List.length h0) p1021.2.2); (bif (x1022 == 2) then (Option.bind (call 53 [.one (.int .u64 a1)] [] h1023) fun p1024 => (rI .u64 p1024.1 fun x1025 => (bN p1024.2.1 (let h1026 : Heap := (List.take (List.length h1023) p1024.2.2); (some (.tup [.one (.int .u64 x1025), .one (.int .i64 (-1074))], [], h1026)))))) else (bif (x1022 == 3) then (Option.bind (call 53 [.one (.int .u64 a1)] [] h1023) fun p1027 => (rI .u64 p1027.1 fun x1028 => (bN p1027.2.1 (let h1029 : Heap := (List.take (List.length h1023) p1027.2.2); (let x1030 : Int := (bitI .or .u64 x1028 4503599627370496); (Option.bind (call 40 [.one (.int .u64 a1)] [] h1029) fun p1031 => (rI .i64 p1031.1 fun x1032 => (bN p1031.2.1 (let h1033 : Heap := (List.take (List.length h1029) p1031.2.2); (let x1034 : Int := (IntKind.wrap .i64 (x1032 - 1075)); (some (.tup [.one (.int .u64 x1030), .one (.int .i64 x1034)], [], h1033)))))))))))) else (some (.tup [.one (.int .u64 0), .one (.int .i64 0)], [], h1023))))))))
noncomputable def f45_root : Code := Go.Proofs.Try.f45.body.getD .skip
theorem f45_eq (call : Nat → List V → List Box → Heap → Option Res) (N : Nat) (a1 : Int) (h0 : Heap) : evF E call 45 (cutL []) [.one (.int .u64 a1)] [] h0 = f45 call N a1 h0 := by kernel_rfl
theorem f45_le {d : Nat} {a1 : Int} {h0 : Heap} {r : Res} (h : f45 (ev E d) E.N a1 h0 = some r) : ev E (d + 1) 45 [.one (.int .u64 a1)] [] h0 = some r := by
  have hN : 64 ≤ E.N := by decide
  rw [← f45_eq] at h
  exact evF_le hN (f := 45) (by kernel_rfl) (fn := Go.Proofs.Try.f45) (c := f45_root) Go.Proofs.Try.func45 (by kernel_rfl) cutL_nil h
end Go.Ev.Try
end

noncomputable section
set_option linter.all false
set_option maxRecDepth 100000
/- gimbal/round.Round. Printed by seat.py. -/
namespace Go.Ev.Try
open Go.Ev
def f46_j1 {α : Type} (call : Nat → List V → List Box → Heap → Option Res) (N n0 : Nat) (K0 : Bool → Int → Bool → Int → Bool → Bool → Bool → Bool → Int → Int → Bool → Bool → Int → Int → Bool → Int → Int → Int → Int → Bool → Int → Int → Bool → Int → Int → Int → Int → Heap → Option α) (K1 : Bool → Int → Bool → Int → Bool → Bool → Bool → Bool → Int → Int → Bool → Bool → Bool → Bool → Int → Int → Bool → Int → Int → Int → Int → Bool → Int → Int → Bool → Int → Int → Int → Int → Heap → Option α) (K2 : Bool → Int → Bool → Int → Bool → Bool → Bool → Bool → Int → Int → Bool → Bool → Bool → Bool → Int → Int → Bool → Bool → Int → Int → Bool → Int → Int → Int → Int → Bool → Int → Int → Bool → Int → Int → Int → Int → Heap → Option α) (K3 : Bool → Int → Bool → Int → Bool → Bool → Bool → Bool → Int → Int → Bool → Bool → Bool → Bool → Int → Int → Bool → Bool → Int → Int → Int → Int → Heap → Option α) (K4 : Bool → Int → Bool → Int → Bool → Bool → Bool → Bool → Int → Int → Bool → Int → Int → Int → Int → Heap → Option α) (b1077 : Bool) (x1078 : Int) (b1079 : Bool) (x1080 : Int) (b1081 : Bool) (b1082 : Bool) (b1083 : Bool) (b1084 : Bool) (x1085 : Int) (x1086 : Int) (x1087 : Int) (x1088 : Int) (h1089 : Heap) : Option α :=
  (bif b1083 then (bif b1084 then (Option.bind (call 50 [.agg [.int .u64 x1087, .int .u64 x1088], .agg [.int .u64 0, .int .u64 1]] [] h1089) fun p2009 => (rT p2009.1 fun q2010 => (tL q2010 fun v2011 q2012 => (rA v2011 fun q2013 => (cI .u64 q2013 fun x2015 q2014 => (cI .u64 q2014 fun x2017 q2016 => (cN q2016 (tL q2012 fun v2018 q2019 => (rB v2018 fun b2020 => (tN q2019 (bN p2009.2.1 (let h2021 : Heap := (List.take (List.length h1089) p2009.2.2); (K0 b1077 x1078 b1079 x1080 b1081 b1082 b1083 b1084 x1087 x1088 b1083 b1084 x2015 x2017 b2020 x1087 x1088 x2015 x2017 b2020 x2015 x2017 b2020 x2015 x2017 x1087 x1088 h2021))))))))))))) else (bif b1079 then (Option.bind (call 50 [.agg [.int .u64 x1087, .int .u64 x1088], .agg [.int .u64 0, .int .u64 1]] [] h1089) fun p2022 => (rT p2022.1 fun q2023 => (tL q2023 fun v2024 q2025 => (rA v2024 fun q2026 => (cI .u64 q2026 fun x2028 q2027 => (cI .u64 q2027 fun x2030 q2029 => (cN q2029 (tL q2025 fun v2031 q2032 => (rB v2031 fun b2033 => (tN q2032 (bN p2022.2.1 (let h2034 : Heap := (List.take (List.length h1089) p2022.2.2); (K1 b1077 x1078 b1079 x1080 b1081 b1082 b1083 b1084 x1087 x1088 b1083 b1084 b1079 b1079 x2028 x2030 b2033 x1087 x1088 x2028 x2030 b2033 x2028 x2030 b2033 x2028 x2030 x1087 x1088 h2034))))))))))))) else (bif ((bitI .and .u64 x1088 1) == 1) then (Option.bind (call 50 [.agg [.int .u64 x1087, .int .u64 x1088], .agg [.int .u64 0, .int .u64 1]] [] h1089) fun p2035 => (rT p2035.1 fun q2036 => (tL q2036 fun v2037 q2038 => (rA v2037 fun q2039 => (cI .u64 q2039 fun x2041 q2040 => (cI .u64 q2040 fun x2043 q2042 => (cN q2042 (tL q2038 fun v2044 q2045 => (rB v2044 fun b2046 => (tN q2045 (bN p2035.2.1 (let h2047 : Heap := (List.take (List.length h1089) p2035.2.2); (K2 b1077 x1078 b1079 x1080 b1081 b1082 b1083 b1084 x1087 x1088 b1083 b1084 b1079 b1079 x1088 (bitI .and .u64 x1088 1) ((bitI .and .u64 x1088 1) == 1) ((bitI .and .u64 x1088 1) == 1) x2041 x2043 b2046 x1087 x1088 x2041 x2043 b2046 x2041 x2043 b2046 x2041 x2043 x1087 x1088 h2047))))))))))))) else (K3 b1077 x1078 b1079 x1080 b1081 b1082 b1083 b1084 x1087 x1088 b1083 b1084 b1079 b1079 x1088 (bitI .and .u64 x1088 1) ((bitI .and .u64 x1088 1) == 1) ((bitI .and .u64 x1088 1) == 1) x1087 x1088 x1087 x1088 h1089)))) else (K4 b1077 x1078 b1079 x1080 b1081 b1082 b1083 b1084 x1087 x1088 b1083 x1087 x1088 x1087 x1088 h1089))
def f46_j4 {α : Type} (call : Nat → List V → List Box → Heap → Option Res) (N n0 : Nat) (K0 : Int → Int → Heap → Option α) (b1329 : Bool) (x1330 : Int) (x1331 : Int) (x1332 : Int) (h1333 : Heap) : Option α :=
  (bif (decide (x1331 < 4503599627370496)) then (Option.bind (call 23 [.one (.bool b1329), .one (.int .i64 0), .one (.int .u64 x1331)] [] h1333) fun p2065 => (rI .u64 p2065.1 fun x2066 => (bN p2065.2.1 (let h2067 : Heap := (List.take (List.length h1333) p2065.2.2); (K0 x2066 x1332 h2067))))) else (let x2068 : Int := (IntKind.wrap .i64 (x1330 + 1075)); (bif (decide (x2068 ≥ 2047)) then (Option.bind (call 23 [.one (.bool b1329), .one (.int .i64 2047), .one (.int .u64 0)] [] h1333) fun p2069 => (rI .u64 p2069.1 fun x2070 => (bN p2069.2.1 (let h2071 : Heap := (List.take (List.length h1333) p2069.2.2); (let x2072 : Int := (bitI .or .u8 (bitI .or .u8 x1332 4) 1); (K0 x2070 x2072 h2071)))))) else (let x2073 : Int := (IntKind.wrap .i64 (x1330 + 1075)); (Option.bind (call 23 [.one (.bool b1329), .one (.int .i64 x2073), .one (.int .u64 x1331)] [] h1333) fun p2074 => (rI .u64 p2074.1 fun x2075 => (bN p2074.2.1 (let h2076 : Heap := (List.take (List.length h1333) p2074.2.2); (K0 x2075 x1332 h2076)))))))))
def f46_j3 {α : Type} (call : Nat → List V → List Box → Heap → Option Res) (N n0 : Nat) (K0 : Int → Int → Heap → Option α) (b1317 : Bool) (x1318 : Int) (b1319 : Bool) (b1320 : Bool) (x1321 : Int) (h1322 : Heap) : Option α :=
  (bif b1320 then (bif b1319 then (f46_j4 call N n0 (fun x2056 x2057 h2058 => (K0 x2056 x2057 h2058)) b1317 x1318 x1321 3 h1322) else (f46_j4 call N n0 (fun x2059 x2060 h2061 => (K0 x2059 x2060 h2061)) b1317 x1318 x1321 1 h1322)) else (f46_j4 call N n0 (fun x2062 x2063 h2064 => (K0 x2062 x2063 h2064)) b1317 x1318 x1321 0 h1322))
def f46_j2 {α : Type} (call : Nat → List V → List Box → Heap → Option Res) (N n0 : Nat) (K0 : Int → Int → Heap → Option α) (b1299 : Bool) (x1300 : Int) (x1301 : Int) (b1302 : Bool) (b1303 : Bool) (x1304 : Int) (x1305 : Int) (h1306 : Heap) : Option α :=
  (let x2048 : Int := (IntKind.wrap .i64 (x1300 + x1301)); (bif (x1305 == 9007199254740992) then (let x2049 : Int := (IntKind.wrap .i64 (x2048 + 1)); (f46_j3 call N n0 (fun x2050 x2051 h2052 => (K0 x2050 x2051 h2052)) b1299 x2049 b1302 b1303 (shrI .u64 x1305 1) h1306)) else (f46_j3 call N n0 (fun x2053 x2054 h2055 => (K0 x2053 x2054 h2055)) b1299 x2048 b1302 b1303 x1305 h1306)))
def f46_j0 {α : Type} (call : Nat → List V → List Box → Heap → Option Res) (N n0 : Nat) (K0 : Int → Int → Heap → Option α) (b1033 : Bool) (x1034 : Int) (b1035 : Bool) (x1036 : Int) (b1037 : Bool) (x1038 : Int) (x1039 : Int) (h1040 : Heap) : Option α :=
  (bif (decide (x1036 > 0)) then (Option.bind (call 49 [.agg [.int .u64 x1038, .int .u64 x1039], .one (.int .i64 x1036)] [] h1040) fun p1510 => (rT p1510.1 fun q1511 => (tL q1511 fun v1512 q1513 => (rA v1512 fun q1514 => (cI .u64 q1514 fun x1516 q1515 => (cI .u64 q1515 fun x1518 q1517 => (cN q1517 (tL q1513 fun v1519 q1520 => (rB v1519 fun b1521 => (tN q1520 (bN p1510.2.1 (let h1522 : Heap := (List.take (List.length h1040) p1510.2.2); (Option.bind (call 58 [.agg [.int .u64 x1038, .int .u64 x1039], .one (.int .i64 x1036), .one (.bool b1521)] [] h1522) fun p1523 => (rT p1523.1 fun q1524 => (tL q1524 fun v1525 q1526 => (rB v1525 fun b1527 => (tL q1526 fun v1528 q1529 => (rB v1528 fun b1530 => (tN q1529 (bN p1523.2.1 (let h1531 : Heap := (List.take (List.length h1522) p1523.2.2); (bif b1527 then (f46_j1 call N n0 (fun b1532 x1533 b1534 x1535 b1536 b1537 b1538 b1539 x1540 x1541 b1542 b1543 x1544 x1545 b1546 x1547 x1548 x1549 x1550 b1551 x1552 x1553 b1554 x1555 x1556 x1557 x1558 h1559 => (f46_j2 call N n0 (fun x1560 x1561 h1562 => (K0 x1560 x1561 h1562)) b1532 x1533 x1535 b1536 b1537 x1555 x1556 h1559)) (fun b1563 x1564 b1565 x1566 b1567 b1568 b1569 b1570 x1571 x1572 b1573 b1574 b1575 b1576 x1577 x1578 b1579 x1580 x1581 x1582 x1583 b1584 x1585 x1586 b1587 x1588 x1589 x1590 x1591 h1592 => (f46_j2 call N n0 (fun x1593 x1594 h1595 => (K0 x1593 x1594 h1595)) b1563 x1564 x1566 b1567 b1568 x1588 x1589 h1592)) (fun b1596 x1597 b1598 x1599 b1600 b1601 b1602 b1603 x1604 x1605 b1606 b1607 b1608 b1609 x1610 x1611 b1612 b1613 x1614 x1615 b1616 x1617 x1618 x1619 x1620 b1621 x1622 x1623 b1624 x1625 x1626 x1627 x1628 h1629 => (f46_j2 call N n0 (fun x1630 x1631 h1632 => (K0 x1630 x1631 h1632)) b1596 x1597 x1599 b1600 b1601 x1625 x1626 h1629)) (fun b1633 x1634 b1635 x1636 b1637 b1638 b1639 b1640 x1641 x1642 b1643 b1644 b1645 b1646 x1647 x1648 b1649 b1650 x1651 x1652 x1653 x1654 h1655 => (f46_j2 call N n0 (fun x1656 x1657 h1658 => (K0 x1656 x1657 h1658)) b1633 x1634 x1636 b1637 b1638 x1651 x1652 h1655)) (fun b1659 x1660 b1661 x1662 b1663 b1664 b1665 b1666 x1667 x1668 b1669 x1670 x1671 x1672 x1673 h1674 => (f46_j2 call N n0 (fun x1675 x1676 h1677 => (K0 x1675 x1676 h1677)) b1659 x1660 x1662 b1663 b1664 x1670 x1671 h1674)) b1033 x1034 b1035 x1036 b1037 true b1527 b1530 x1038 x1039 x1516 x1518 h1531) else (bif b1530 then (f46_j1 call N n0 (fun b1678 x1679 b1680 x1681 b1682 b1683 b1684 b1685 x1686 x1687 b1688 b1689 x1690 x1691 b1692 x1693 x1694 x1695 x1696 b1697 x1698 x1699 b1700 x1701 x1702 x1703 x1704 h1705 => (f46_j2 call N n0 (fun x1706 x1707 h1708 => (K0 x1706 x1707 h1708)) b1678 x1679 x1681 b1682 b1683 x1701 x1702 h1705)) (fun b1709 x1710 b1711 x1712 b1713 b1714 b1715 b1716 x1717 x1718 b1719 b1720 b1721 b1722 x1723 x1724 b1725 x1726 x1727 x1728 x1729 b1730 x1731 x1732 b1733 x1734 x1735 x1736 x1737 h1738 => (f46_j2 call N n0 (fun x1739 x1740 h1741 => (K0 x1739 x1740 h1741)) b1709 x1710 x1712 b1713 b1714 x1734 x1735 h1738)) (fun b1742 x1743 b1744 x1745 b1746 b1747 b1748 b1749 x1750 x1751 b1752 b1753 b1754 b1755 x1756 x1757 b1758 b1759 x1760 x1761 b1762 x1763 x1764 x1765 x1766 b1767 x1768 x1769 b1770 x1771 x1772 x1773 x1774 h1775 => (f46_j2 call N n0 (fun x1776 x1777 h1778 => (K0 x1776 x1777 h1778)) b1742 x1743 x1745 b1746 b1747 x1771 x1772 h1775)) (fun b1779 x1780 b1781 x1782 b1783 b1784 b1785 b1786 x1787 x1788 b1789 b1790 b1791 b1792 x1793 x1794 b1795 b1796 x1797 x1798 x1799 x1800 h1801 => (f46_j2 call N n0 (fun x1802 x1803 h1804 => (K0 x1802 x1803 h1804)) b1779 x1780 x1782 b1783 b1784 x1797 x1798 h1801)) (fun b1805 x1806 b1807 x1808 b1809 b1810 b1811 b1812 x1813 x1814 b1815 x1816 x1817 x1818 x1819 h1820 => (f46_j2 call N n0 (fun x1821 x1822 h1823 => (K0 x1821 x1822 h1823)) b1805 x1806 x1808 b1809 b1810 x1816 x1817 h1820)) b1033 x1034 b1035 x1036 b1037 true b1527 b1530 x1038 x1039 x1516 x1518 h1531) else (f46_j1 call N n0 (fun b1824 x1825 b1826 x1827 b1828 b1829 b1830 b1831 x1832 x1833 b1834 b1835 x1836 x1837 b1838 x1839 x1840 x1841 x1842 b1843 x1844 x1845 b1846 x1847 x1848 x1849 x1850 h1851 => (f46_j2 call N n0 (fun x1852 x1853 h1854 => (K0 x1852 x1853 h1854)) b1824 x1825 x1827 b1828 b1829 x1847 x1848 h1851)) (fun b1855 x1856 b1857 x1858 b1859 b1860 b1861 b1862 x1863 x1864 b1865 b1866 b1867 b1868 x1869 x1870 b1871 x1872 x1873 x1874 x1875 b1876 x1877 x1878 b1879 x1880 x1881 x1882 x1883 h1884 => (f46_j2 call N n0 (fun x1885 x1886 h1887 => (K0 x1885 x1886 h1887)) b1855 x1856 x1858 b1859 b1860 x1880 x1881 h1884)) (fun b1888 x1889 b1890 x1891 b1892 b1893 b1894 b1895 x1896 x1897 b1898 b1899 b1900 b1901 x1902 x1903 b1904 b1905 x1906 x1907 b1908 x1909 x1910 x1911 x1912 b1913 x1914 x1915 b1916 x1917 x1918 x1919 x1920 h1921 => (f46_j2 call N n0 (fun x1922 x1923 h1924 => (K0 x1922 x1923 h1924)) b1888 x1889 x1891 b1892 b1893 x1917 x1918 h1921)) (fun b1925 x1926 b1927 x1928 b1929 b1930 b1931 b1932 x1933 x1934 b1935 b1936 b1937 b1938 x1939 x1940 b1941 b1942 x1943 x1944 x1945 x1946 h1947 => (f46_j2 call N n0 (fun x1948 x1949 h1950 => (K0 x1948 x1949 h1950)) b1925 x1926 x1928 b1929 b1930 x1943 x1944 h1947)) (fun b1951 x1952 b1953 x1954 b1955 b1956 b1957 b1958 x1959 x1960 b1961 x1962 x1963 x1964 x1965 h1966 => (f46_j2 call N n0 (fun x1967 x1968 h1969 => (K0 x1967 x1968 h1969)) b1951 x1952 x1954 b1955 b1956 x1962 x1963 h1966)) b1033 x1034 b1035 x1036 b1037 b1035 b1527 b1530 x1038 x1039 x1516 x1518 h1531)))))))))))))))))))))))) else (bif (decide (x1036 < 0)) then (bif (!b1035) then (let x1970 : Int := (IntKind.wrap .i64 (0 - x1036)); (Option.bind (call 48 [.agg [.int .u64 x1038, .int .u64 x1039], .one (.int .i64 x1970)] [] h1040) fun p1971 => (rA p1971.1 fun q1972 => (cI .u64 q1972 fun x1974 q1973 => (cI .u64 q1973 fun x1976 q1975 => (cN q1975 (bN p1971.2.1 (let h1977 : Heap := (List.take (List.length h1040) p1971.2.2); (f46_j2 call N n0 (fun x1978 x1979 h1980 => (K0 x1978 x1979 h1980)) b1033 x1034 x1036 b1037 b1035 x1974 x1976 h1977))))))))) else (bif (decide (x1036 < 0)) then (let x1981 : Int := (IntKind.wrap .i64 (0 - x1036)); (Option.bind (call 48 [.agg [.int .u64 x1038, .int .u64 x1039], .one (.int .i64 x1981)] [] h1040) fun p1982 => (rA p1982.1 fun q1983 => (cI .u64 q1983 fun x1985 q1984 => (cI .u64 q1984 fun x1987 q1986 => (cN q1986 (bN p1982.2.1 (let h1988 : Heap := (List.take (List.length h1040) p1982.2.2); (f46_j2 call N n0 (fun x1989 x1990 h1991 => (K0 x1989 x1990 h1991)) b1033 x1034 x1036 b1037 b1035 x1985 x1987 h1988))))))))) else (f46_j2 call N n0 (fun x1992 x1993 h1994 => (K0 x1992 x1993 h1994)) b1033 x1034 x1036 b1037 b1035 x1038 x1039 h1040))) else (bif (decide (x1036 < 0)) then (let x1995 : Int := (IntKind.wrap .i64 (0 - x1036)); (Option.bind (call 48 [.agg [.int .u64 x1038, .int .u64 x1039], .one (.int .i64 x1995)] [] h1040) fun p1996 => (rA p1996.1 fun q1997 => (cI .u64 q1997 fun x1999 q1998 => (cI .u64 q1998 fun x2001 q2000 => (cN q2000 (bN p1996.2.1 (let h2002 : Heap := (List.take (List.length h1040) p1996.2.2); (f46_j2 call N n0 (fun x2003 x2004 h2005 => (K0 x2003 x2004 h2005)) b1033 x1034 x1036 b1037 b1035 x1999 x2001 h2002))))))))) else (f46_j2 call N n0 (fun x2006 x2007 h2008 => (K0 x2006 x2007 h2008)) b1033 x1034 x1036 b1037 b1035 x1038 x1039 h1040))))
def f46 (call : Nat → List V → List Box → Heap → Option Res) (N : Nat) (a1 : Bool) (a2 : Int) (a3 : Int) (a4 : Int) (a5 : Bool) (h0 : Heap) : Option Res :=
  (let x2077 : Int := (maxN (-100000) (minN a4 100000)); (Option.bind (call 52 [.agg [.int .u64 a2, .int .u64 a3]] [] h0) fun p2078 => (rB p2078.1 fun b2079 => (bN p2078.2.1 (let h2080 : Heap := (List.take (List.length h0) p2078.2.2); (bif b2079 then (bif (!a5) then (Option.bind (call 23 [.one (.bool a1), .one (.int .i64 0), .one (.int .u64 0)] [] h2080) fun p2081 => (rI .u64 p2081.1 fun x2082 => (bN p2081.2.1 (let h2083 : Heap := (List.take (List.length h2080) p2081.2.2); (some (.tup [.one (.int .u64 x2082), .one (.int .u8 0)], [], h2083)))))) else (Option.bind (call 23 [.one (.bool a1), .one (.int .i64 0), .one (.int .u64 0)] [] h2080) fun p2084 => (rI .u64 p2084.1 fun x2085 => (bN p2084.2.1 (let h2086 : Heap := (List.take (List.length h2080) p2084.2.2); (some (.tup [.one (.int .u64 x2085), .one (.int .u8 3)], [], h2086))))))) else (Option.bind (call 57 [.agg [.int .u64 a2, .int .u64 a3]] [] h2080) fun p2087 => (rI .i64 p2087.1 fun x2088 => (bN p2087.2.1 (let h2089 : Heap := (List.take (List.length h2080) p2087.2.2); (let x2090 : Int := (IntKind.wrap .i64 (x2088 - 53)); (Option.bind (call 57 [.agg [.int .u64 a2, .int .u64 a3]] [] h2089) fun p2091 => (rI .i64 p2091.1 fun x2092 => (bN p2091.2.1 (let h2093 : Heap := (List.take (List.length h2089) p2091.2.2); (let x2094 : Int := (IntKind.wrap .i64 (x2077 + x2092)); (let x2095 : Int := (IntKind.wrap .i64 (x2077 + x2090)); (bif (decide (x2095 < (-1074))) then (let x2096 : Int := (IntKind.wrap .i64 ((-1074) - x2077)); (f46_j0 call N (List.length h0) (fun x2097 x2098 h2099 => (some (.tup [.one (.int .u64 x2097), .one (.int .u8 x2098)], [], h2099))) a1 x2077 a5 x2096 (decide (x2094 < (-1021))) a2 a3 h2093)) else (f46_j0 call N (List.length h0) (fun x2100 x2101 h2102 => (some (.tup [.one (.int .u64 x2100), .one (.int .u8 x2101)], [], h2102))) a1 x2077 a5 x2090 (decide (x2094 < (-1021))) a2 a3 h2093)))))))))))))))))))
def f46_j1_c (call : Nat → List V → List Box → Heap → Option Res) (N : Nat) : Cut := { fr := [true, false, true, true, false, true, false, false, false, false, true, true, true, true, true, true, false, false, false, false, false, false, false, false, false, false, false, false, false, false, false, false, false, false, false, false, false, false, false, false, false, false, false, false, false, false, false, false, false, false, false, false, false, false, false, false, false, false, false, false, false, false, false, false, false, false, false, false, false, false, false, false, false, false, false, false, false, false, false, false, false, false, false, false, false, false, false, false, false, false, false, false, false, false, false, false, false, false, false, false, false, false, false, false, false, false, false, false, false, false, false, false, false, false, false, false, false, false, false, false, false, false, false, false, false, false, false, false, false, false, false, false, false, false, false, false, false, false, false, false, false], bx := [false, false, false, false, false, true, false, false, false, false, false, false, false, false, true, false, false, false, false, false, false, false, false, false, false, false, false, false, false, false, false, false, false, false, false, false, false, false, false, false, false, false, false, false, false, false, false, false, false, false, false, false, false, false, false, false, false, false, false, false, false, false, false, false, false, false, false, false, false, false, false, false, false, false, false, false, false, false, false, false, false, false, false, false, false, false, false, false, false, false, false, false, false, false, false, false, false, false, false, false, false, false, false, false, false, false, false, false, false, false, false, false, false, false, false, false, false, false, false, false, false, false, false, false, false, false, false, false, false, false, false, false, false, false, false, false, false, false, false, false, false], run := fun α vs bs R h n0 K => match vs, bs, R with | [.one (.bool b1077), .one (.int .i64 x1078), .one (.bool b1079), .ptr (.loc 5 0), .one (.int .i64 x1080), .one (.bool b1081), .one (.bool b1082), .one (.bool b1083), .ptr (.loc 14 0), .one (.bool b1084)], [some (81, [.int .u64 x1085, .int .u64 x1086]), some (81, [.int .u64 x1087, .int .u64 x1088])], [] => f46_j1 call N n0 (fun b1370 x1371 b1372 x1373 b1374 b1375 b1376 b1377 x1378 x1379 b1380 b1381 x1382 x1383 b1384 x1385 x1386 x1387 x1388 b1389 x1390 x1391 b1392 x1393 x1394 x1395 x1396 h1397 => K .normal (stF [true, false, true, true, false, true, false, false, false, false, true, true, true, true, true, true, false, false, false, false, false, false, false, false, false, false, false, false, false, false, false, false, false, false, false, false, false, false, false, false, false, false, false, false, false, false, false, false, false, false, false, false, false, false, false, false, false, false, false, false, false, false, false, false, false, false, true, true, true, true, true, true, true, true, true, true, true, true, true, true, true, true, true, true, true, true, false, false, false, false, false, false, false, false, false, false, false, false, false, false, false, false, false, false, false, false, false, false, false, false, false, false, false, false, false, false, false, false, false, false, false, false, false, false, false, false, false, false, false, false, false, false, false, false, false, false, false, false, false, false, false] [false, false, false, false, false, true, false, false, false, false, false, false, false, false, true, false, false, false, false, false, false, false, false, false, false, false, false, false, false, false, false, false, false, false, false, false, false, false, false, false, false, false, false, false, false, false, false, false, false, false, false, false, false, false, false, false, false, false, false, false, false, false, false, false, false, false, false, false, false, false, false, false, false, false, false, false, false, false, false, false, false, false, false, false, false, false, false, false, false, false, false, false, false, false, false, false, false, false, false, false, false, false, false, false, false, false, false, false, false, false, false, false, false, false, false, false, false, false, false, false, false, false, false, false, false, false, false, false, false, false, false, false, false, false, false, false, false, false, false, false, false] [.one (.bool b1370), .one (.int .i64 x1371), .one (.bool b1372), .ptr (.loc 5 0), .one (.int .i64 x1373), .one (.bool b1374), .one (.bool b1375), .one (.bool b1376), .ptr (.loc 14 0), .one (.bool b1377), .agg [.int .u64 x1378, .int .u64 x1379], .one (.bool b1380), .one (.bool true), .one (.bool b1381), .one (.bool true), .tup [], .one (.bool true), .one (.bool true), .tup [], .tup [], .tup [], .tup [], .one (.bool true), .one (.bool true), .tup [.agg [.int .u64 x1382, .int .u64 x1383], .one (.bool b1384)], .agg [.int .u64 x1385, .int .u64 x1386], .agg [.int .u64 0, .int .u64 1], .tup [.agg [.int .u64 x1387, .int .u64 x1388], .one (.bool b1389)], .agg [.int .u64 x1390, .int .u64 x1391], .one (.bool b1392)] [some (81, [.int .u64 x1393, .int .u64 x1394]), some (81, [.int .u64 x1395, .int .u64 x1396])] [] h1397 n0)) (fun b1398 x1399 b1400 x1401 b1402 b1403 b1404 b1405 x1406 x1407 b1408 b1409 b1410 b1411 x1412 x1413 b1414 x1415 x1416 x1417 x1418 b1419 x1420 x1421 b1422 x1423 x1424 x1425 x1426 h1427 => K .normal (stF [true, false, true, true, false, true, false, false, false, false, true, true, true, true, true, true, false, false, false, false, false, false, false, false, false, false, false, false, false, false, false, false, false, false, false, false, false, false, false, false, false, false, false, false, false, false, false, false, false, false, false, false, false, false, false, false, false, false, false, false, false, false, false, false, false, false, true, true, true, true, true, true, true, true, true, true, true, true, true, true, true, true, true, true, true, true, false, false, false, false, false, false, false, false, false, false, false, false, false, false, false, false, false, false, false, false, false, false, false, false, false, false, false, false, false, false, false, false, false, false, false, false, false, false, false, false, false, false, false, false, false, false, false, false, false, false, false, false, false, false, false] [false, false, false, false, false, true, false, false, false, false, false, false, false, false, true, false, false, false, false, false, false, false, false, false, false, false, false, false, false, false, false, false, false, false, false, false, false, false, false, false, false, false, false, false, false, false, false, false, false, false, false, false, false, false, false, false, false, false, false, false, false, false, false, false, false, false, false, false, false, false, false, false, false, false, false, false, false, false, false, false, false, false, false, false, false, false, false, false, false, false, false, false, false, false, false, false, false, false, false, false, false, false, false, false, false, false, false, false, false, false, false, false, false, false, false, false, false, false, false, false, false, false, false, false, false, false, false, false, false, false, false, false, false, false, false, false, false, false, false, false, false] [.one (.bool b1398), .one (.int .i64 x1399), .one (.bool b1400), .ptr (.loc 5 0), .one (.int .i64 x1401), .one (.bool b1402), .one (.bool b1403), .one (.bool b1404), .ptr (.loc 14 0), .one (.bool b1405), .agg [.int .u64 x1406, .int .u64 x1407], .one (.bool b1408), .one (.bool true), .one (.bool b1409), .one (.bool false), .one (.bool b1410), .one (.bool b1411), .one (.bool true), .tup [], .tup [], .tup [], .tup [], .one (.bool true), .one (.bool true), .tup [.agg [.int .u64 x1412, .int .u64 x1413], .one (.bool b1414)], .agg [.int .u64 x1415, .int .u64 x1416], .agg [.int .u64 0, .int .u64 1], .tup [.agg [.int .u64 x1417, .int .u64 x1418], .one (.bool b1419)], .agg [.int .u64 x1420, .int .u64 x1421], .one (.bool b1422)] [some (81, [.int .u64 x1423, .int .u64 x1424]), some (81, [.int .u64 x1425, .int .u64 x1426])] [] h1427 n0)) (fun b1428 x1429 b1430 x1431 b1432 b1433 b1434 b1435 x1436 x1437 b1438 b1439 b1440 b1441 x1442 x1443 b1444 b1445 x1446 x1447 b1448 x1449 x1450 x1451 x1452 b1453 x1454 x1455 b1456 x1457 x1458 x1459 x1460 h1461 => K .normal (stF [true, false, true, true, false, true, false, false, false, false, true, true, true, true, true, true, false, false, false, false, false, false, false, false, false, false, false, false, false, false, false, false, false, false, false, false, false, false, false, false, false, false, false, false, false, false, false, false, false, false, false, false, false, false, false, false, false, false, false, false, false, false, false, false, false, false, true, true, true, true, true, true, true, true, true, true, true, true, true, true, true, true, true, true, true, true, false, false, false, false, false, false, false, false, false, false, false, false, false, false, false, false, false, false, false, false, false, false, false, false, false, false, false, false, false, false, false, false, false, false, false, false, false, false, false, false, false, false, false, false, false, false, false, false, false, false, false, false, false, false, false] [false, false, false, false, false, true, false, false, false, false, false, false, false, false, true, false, false, false, false, false, false, false, false, false, false, false, false, false, false, false, false, false, false, false, false, false, false, false, false, false, false, false, false, false, false, false, false, false, false, false, false, false, false, false, false, false, false, false, false, false, false, false, false, false, false, false, false, false, false, false, false, false, false, false, false, false, false, false, false, false, false, false, false, false, false, false, false, false, false, false, false, false, false, false, false, false, false, false, false, false, false, false, false, false, false, false, false, false, false, false, false, false, false, false, false, false, false, false, false, false, false, false, false, false, false, false, false, false, false, false, false, false, false, false, false, false, false, false, false, false, false] [.one (.bool b1428), .one (.int .i64 x1429), .one (.bool b1430), .ptr (.loc 5 0), .one (.int .i64 x1431), .one (.bool b1432), .one (.bool b1433), .one (.bool b1434), .ptr (.loc 14 0), .one (.bool b1435), .agg [.int .u64 x1436, .int .u64 x1437], .one (.bool b1438), .one (.bool true), .one (.bool b1439), .one (.bool false), .one (.bool b1440), .one (.bool b1441), .one (.bool false), .ptr (.loc 5 1), .one (.int .u64 x1442), .one (.int .u64 x1443), .one (.bool b1444), .one (.bool b1445), .one (.bool true), .tup [.agg [.int .u64 x1446, .int .u64 x1447], .one (.bool b1448)], .agg [.int .u64 x1449, .int .u64 x1450], .agg [.int .u64 0, .int .u64 1], .tup [.agg [.int .u64 x1451, .int .u64 x1452], .one (.bool b1453)], .agg [.int .u64 x1454, .int .u64 x1455], .one (.bool b1456)] [some (81, [.int .u64 x1457, .int .u64 x1458]), some (81, [.int .u64 x1459, .int .u64 x1460])] [] h1461 n0)) (fun b1462 x1463 b1464 x1465 b1466 b1467 b1468 b1469 x1470 x1471 b1472 b1473 b1474 b1475 x1476 x1477 b1478 b1479 x1480 x1481 x1482 x1483 h1484 => K .normal (stF [true, false, true, true, false, true, false, false, false, false, true, true, true, true, true, true, false, false, false, false, false, false, false, false, false, false, false, false, false, false, false, false, false, false, false, false, false, false, false, false, false, false, false, false, false, false, false, false, false, false, false, false, false, false, false, false, false, false, false, false, false, false, false, false, false, false, true, true, true, true, true, true, true, true, true, true, true, true, true, true, false, false, false, false, false, false, false, false, false, false, false, false, false, false, false, false, false, false, false, false, false, false, false, false, false, false, false, false, false, false, false, false, false, false, false, false, false, false, false, false, false, false, false, false, false, false, false, false, false, false, false, false, false, false, false, false, false, false, false, false, false] [false, false, false, false, false, true, false, false, false, false, false, false, false, false, true, false, false, false, false, false, false, false, false, false, false, false, false, false, false, false, false, false, false, false, false, false, false, false, false, false, false, false, false, false, false, false, false, false, false, false, false, false, false, false, false, false, false, false, false, false, false, false, false, false, false, false, false, false, false, false, false, false, false, false, false, false, false, false, false, false, false, false, false, false, false, false, false, false, false, false, false, false, false, false, false, false, false, false, false, false, false, false, false, false, false, false, false, false, false, false, false, false, false, false, false, false, false, false, false, false, false, false, false, false, false, false, false, false, false, false, false, false, false, false, false, false, false, false, false, false, false] [.one (.bool b1462), .one (.int .i64 x1463), .one (.bool b1464), .ptr (.loc 5 0), .one (.int .i64 x1465), .one (.bool b1466), .one (.bool b1467), .one (.bool b1468), .ptr (.loc 14 0), .one (.bool b1469), .agg [.int .u64 x1470, .int .u64 x1471], .one (.bool b1472), .one (.bool true), .one (.bool b1473), .one (.bool false), .one (.bool b1474), .one (.bool b1475), .one (.bool false), .ptr (.loc 5 1), .one (.int .u64 x1476), .one (.int .u64 x1477), .one (.bool b1478), .one (.bool b1479), .one (.bool false)] [some (81, [.int .u64 x1480, .int .u64 x1481]), some (81, [.int .u64 x1482, .int .u64 x1483])] [] h1484 n0)) (fun b1485 x1486 b1487 x1488 b1489 b1490 b1491 b1492 x1493 x1494 b1495 x1496 x1497 x1498 x1499 h1500 => K .normal (stF [true, false, true, true, false, true, false, false, false, false, true, true, true, true, true, true, false, false, false, false, false, false, false, false, false, false, false, false, false, false, false, false, false, false, false, false, false, false, false, false, false, false, false, false, false, false, false, false, false, false, false, false, false, false, false, false, false, false, false, false, false, false, false, false, false, false, true, true, true, true, true, true, true, true, true, true, true, true, true, true, false, false, false, false, false, false, false, false, false, false, false, false, false, false, false, false, false, false, false, false, false, false, false, false, false, false, false, false, false, false, false, false, false, false, false, false, false, false, false, false, false, false, false, false, false, false, false, false, false, false, false, false, false, false, false, false, false, false, false, false, false] [false, false, false, false, false, true, false, false, false, false, false, false, false, false, true, false, false, false, false, false, false, false, false, false, false, false, false, false, false, false, false, false, false, false, false, false, false, false, false, false, false, false, false, false, false, false, false, false, false, false, false, false, false, false, false, false, false, false, false, false, false, false, false, false, false, false, false, false, false, false, false, false, false, false, false, false, false, false, false, false, false, false, false, false, false, false, false, false, false, false, false, false, false, false, false, false, false, false, false, false, false, false, false, false, false, false, false, false, false, false, false, false, false, false, false, false, false, false, false, false, false, false, false, false, false, false, false, false, false, false, false, false, false, false, false, false, false, false, false, false, false] [.one (.bool b1485), .one (.int .i64 x1486), .one (.bool b1487), .ptr (.loc 5 0), .one (.int .i64 x1488), .one (.bool b1489), .one (.bool b1490), .one (.bool b1491), .ptr (.loc 14 0), .one (.bool b1492), .agg [.int .u64 x1493, .int .u64 x1494], .one (.bool b1495), .one (.bool false), .tup [], .tup [], .tup [], .tup [], .tup [], .tup [], .tup [], .tup [], .tup [], .tup [], .one (.bool false)] [some (81, [.int .u64 x1496, .int .u64 x1497]), some (81, [.int .u64 x1498, .int .u64 x1499])] [] h1500 n0)) b1077 x1078 b1079 x1080 b1081 b1082 b1083 b1084 x1085 x1086 x1087 x1088 h | _, _, _ => none }
def f46_j4_c (call : Nat → List V → List Box → Heap → Option Res) (N : Nat) : Cut := { fr := [true, false, true, false, false, false, false, false, false, false, false, false, false, false, false, false, true, true, false, false, false, false, false, false, false, false, false, false, false, false, false, false, false, false, false, false, false, false, false, false, false, false, false, false, false, false, false, false, false, false, false, false, false, false, false, false, false, false, false, false, false, false, false, false, false, false, false, false, false, false, false, false, false, false, false, false, false, false, false, false, false, false, false, false, false, false, false, false, false, false, false, false, false, false, false, false, false, false, false, false, false, false, false, false, false, false, false, false, false, false, false, false, false, false, false, false, false, false, false, false, false, false, false, false, false, false, false, false, false, false, false, false, false, false, false, false, false, false, false, false, false], bx := [false, false, false, false, false, false, false, false, false, false, false, false, false, false, false, false, false, false, false, false, false, false, false, false, false, false, false, false, false, false, false, false, false, false, false, false, false, false, false, false, false, false, false, false, false, false, false, false, false, false, false, false, false, false, false, false, false, false, false, false, false, false, false, false, false, false, false, false, false, false, false, false, false, false, false, false, false, false, false, false, false, false, false, false, false, false, false, false, false, false, false, false, false, false, false, false, false, false, false, false, false, false, false, false, false, false, false, false, false, false, false, false, false, false, false, false, false, false, false, false, false, false, false, false, false, false, false, false, false, false, false, false, false, false, false, false, false, false, false, false, false], run := fun α vs bs R h n0 K => match vs, bs, R with | [.one (.bool b1329), .one (.int .i64 x1330), .one (.int .u64 x1331), .one (.int .u8 x1332)], [], [] => f46_j4 call N n0 (fun x1507 x1508 h1509 => K .ret (stF [false, false, false, false, false, false, false, false, true, true, false, false, false, false, false, false, false, false, false, false, false, false, false, false, false, false, false, false, false, false, false, false, false, false, false, false, false, false, false, false, false, false, false, false, false, false, false, false, false, false, false, false, false, false, false, false, false, false, false, false, false, false, false, false, false, false, false, false, false, false, false, false, false, false, false, false, false, false, false, false, false, false, false, false, false, false, false, false, false, false, false, false, false, false, false, false, false, false, false, false, false, false, false, false, false, false, false, false, false, false, false, false, false, false, false, false, false, false, false, false, false, false, false, false, false, false, false, false, false, false, false, false, false, false, false, false, false, false, false, false, false] [false, false, false, false, false, false, false, false, false, false, false, false, false, false, false, false, false, false, false, false, false, false, false, false, false, false, false, false, false, false, false, false, false, false, false, false, false, false, false, false, false, false, false, false, false, false, false, false, false, false, false, false, false, false, false, false, false, false, false, false, false, false, false, false, false, false, false, false, false, false, false, false, false, false, false, false, false, false, false, false, false, false, false, false, false, false, false, false, false, false, false, false, false, false, false, false, false, false, false, false, false, false, false, false, false, false, false, false, false, false, false, false, false, false, false, false, false, false, false, false, false, false, false, false, false, false, false, false, false, false, false, false, false, false, false, false, false, false, false, false, false] [.one (.int .u64 x1507), .one (.int .u8 x1508)] [] [] h1509 n0)) b1329 x1330 x1331 x1332 h | _, _, _ => none }
def f46_j3_c (call : Nat → List V → List Box → Heap → Option Res) (N : Nat) : Cut := { fr := [true, false, true, false, false, false, false, false, false, false, false, true, true, false, false, false, true, false, false, false, false, false, false, false, false, false, false, false, false, false, false, false, false, false, false, false, false, false, false, false, false, false, false, false, false, false, false, false, false, false, false, false, false, false, false, false, false, false, false, false, false, false, false, false, false, false, false, false, false, false, false, false, false, false, false, false, false, false, false, false, false, false, false, false, false, false, false, false, false, false, false, false, false, false, false, false, false, false, false, false, false, false, false, false, false, false, false, false, false, false, false, false, false, false, false, false, false, false, false, false, false, false, false, false, false, false, false, false, false, false, false, false, false, false, false, false, false, false, false, false, false], bx := [false, false, false, false, false, false, false, false, false, false, false, false, false, false, false, false, false, false, false, false, false, false, false, false, false, false, false, false, false, false, false, false, false, false, false, false, false, false, false, false, false, false, false, false, false, false, false, false, false, false, false, false, false, false, false, false, false, false, false, false, false, false, false, false, false, false, false, false, false, false, false, false, false, false, false, false, false, false, false, false, false, false, false, false, false, false, false, false, false, false, false, false, false, false, false, false, false, false, false, false, false, false, false, false, false, false, false, false, false, false, false, false, false, false, false, false, false, false, false, false, false, false, false, false, false, false, false, false, false, false, false, false, false, false, false, false, false, false, false, false, false], run := fun α vs bs R h n0 K => match vs, bs, R with | [.one (.bool b1317), .one (.int .i64 x1318), .one (.bool b1319), .one (.bool b1320), .one (.int .u64 x1321)], [], [] => f46_j3 call N n0 (fun x1504 x1505 h1506 => K .ret (stF [false, false, false, false, false, false, false, false, true, true, false, false, false, false, false, false, false, false, false, false, false, false, false, false, false, false, false, false, false, false, false, false, false, false, false, false, false, false, false, false, false, false, false, false, false, false, false, false, false, false, false, false, false, false, false, false, false, false, false, false, false, false, false, false, false, false, false, false, false, false, false, false, false, false, false, false, false, false, false, false, false, false, false, false, false, false, false, false, false, false, false, false, false, false, false, false, false, false, false, false, false, false, false, false, false, false, false, false, false, false, false, false, false, false, false, false, false, false, false, false, false, false, false, false, false, false, false, false, false, false, false, false, false, false, false, false, false, false, false, false, false] [false, false, false, false, false, false, false, false, false, false, false, false, false, false, false, false, false, false, false, false, false, false, false, false, false, false, false, false, false, false, false, false, false, false, false, false, false, false, false, false, false, false, false, false, false, false, false, false, false, false, false, false, false, false, false, false, false, false, false, false, false, false, false, false, false, false, false, false, false, false, false, false, false, false, false, false, false, false, false, false, false, false, false, false, false, false, false, false, false, false, false, false, false, false, false, false, false, false, false, false, false, false, false, false, false, false, false, false, false, false, false, false, false, false, false, false, false, false, false, false, false, false, false, false, false, false, false, false, false, false, false, false, false, false, false, false, false, false, false, false, false] [.one (.int .u64 x1504), .one (.int .u8 x1505)] [] [] h1506 n0)) b1317 x1318 b1319 b1320 x1321 h | _, _, _ => none }
def f46_j2_c (call : Nat → List V → List Box → Heap → Option Res) (N : Nat) : Cut := { fr := [true, false, true, false, false, true, false, false, false, false, true, true, true, false, false, false, false, false, false, false, false, false, false, false, false, false, false, false, false, false, false, false, false, false, false, false, false, false, false, false, false, false, false, false, false, false, false, false, false, false, false, false, false, false, false, false, false, false, false, false, false, false, false, false, false, false, false, false, false, false, false, false, false, false, false, false, false, false, false, false, false, false, false, false, false, false, false, false, false, false, false, false, false, false, false, false, false, false, false, false, false, false, false, false, false, false, false, false, false, false, false, false, false, false, false, false, false, false, false, false, false, false, false, false, false, false, false, false, false, false, false, false, false, false, false, false, false, false, false, false, false], bx := [false, false, false, false, false, true, false, false, false, false, false, false, false, false, false, false, false, false, false, false, false, false, false, false, false, false, false, false, false, false, false, false, false, false, false, false, false, false, false, false, false, false, false, false, false, false, false, false, false, false, false, false, false, false, false, false, false, false, false, false, false, false, false, false, false, false, false, false, false, false, false, false, false, false, false, false, false, false, false, false, false, false, false, false, false, false, false, false, false, false, false, false, false, false, false, false, false, false, false, false, false, false, false, false, false, false, false, false, false, false, false, false, false, false, false, false, false, false, false, false, false, false, false, false, false, false, false, false, false, false, false, false, false, false, false, false, false, false, false, false, false], run := fun α vs bs R h n0 K => match vs, bs, R with | [.one (.bool b1299), .one (.int .i64 x1300), .ptr (.loc 5 0), .one (.int .i64 x1301), .one (.bool b1302), .one (.bool b1303)], [some (81, [.int .u64 x1304, .int .u64 x1305])], [] => f46_j2 call N n0 (fun x1501 x1502 h1503 => K .ret (stF [false, false, false, false, false, false, false, false, true, true, false, false, false, false, false, false, false, false, false, false, false, false, false, false, false, false, false, false, false, false, false, false, false, false, false, false, false, false, false, false, false, false, false, false, false, false, false, false, false, false, false, false, false, false, false, false, false, false, false, false, false, false, false, false, false, false, false, false, false, false, false, false, false, false, false, false, false, false, false, false, false, false, false, false, false, false, false, false, false, false, false, false, false, false, false, false, false, false, false, false, false, false, false, false, false, false, false, false, false, false, false, false, false, false, false, false, false, false, false, false, false, false, false, false, false, false, false, false, false, false, false, false, false, false, false, false, false, false, false, false, false] [false, false, false, false, false, false, false, false, false, false, false, false, false, false, false, false, false, false, false, false, false, false, false, false, false, false, false, false, false, false, false, false, false, false, false, false, false, false, false, false, false, false, false, false, false, false, false, false, false, false, false, false, false, false, false, false, false, false, false, false, false, false, false, false, false, false, false, false, false, false, false, false, false, false, false, false, false, false, false, false, false, false, false, false, false, false, false, false, false, false, false, false, false, false, false, false, false, false, false, false, false, false, false, false, false, false, false, false, false, false, false, false, false, false, false, false, false, false, false, false, false, false, false, false, false, false, false, false, false, false, false, false, false, false, false, false, false, false, false, false, false] [.one (.int .u64 x1501), .one (.int .u8 x1502)] [] [] h1503 n0)) b1299 x1300 x1301 b1302 b1303 x1304 x1305 h | _, _, _ => none }
def f46_j0_c (call : Nat → List V → List Box → Heap → Option Res) (N : Nat) : Cut := { fr := [true, false, true, true, false, true, false, false, false, false, true, true, false, false, false, false, false, false, false, false, false, false, false, false, false, false, false, false, false, false, false, false, false, false, false, false, false, false, false, false, false, false, false, false, false, false, false, false, false, false, false, false, false, false, false, false, false, false, false, false, false, false, false, false, false, false, false, false, false, false, false, false, false, false, false, false, false, false, false, false, false, false, false, false, false, false, false, false, false, false, false, false, false, false, false, false, false, false, false, false, false, false, false, false, false, false, false, false, false, false, false, false, false, false, false, false, false, false, false, false, false, false, false, false, false, false, false, false, false, false, false, false, false, false, false, false, false, false, false, false, false], bx := [false, false, false, false, false, true, false, false, false, false, false, false, false, false, false, false, false, false, false, false, false, false, false, false, false, false, false, false, false, false, false, false, false, false, false, false, false, false, false, false, false, false, false, false, false, false, false, false, false, false, false, false, false, false, false, false, false, false, false, false, false, false, false, false, false, false, false, false, false, false, false, false, false, false, false, false, false, false, false, false, false, false, false, false, false, false, false, false, false, false, false, false, false, false, false, false, false, false, false, false, false, false, false, false, false, false, false, false, false, false, false, false, false, false, false, false, false, false, false, false, false, false, false, false, false, false, false, false, false, false, false, false, false, false, false, false, false, false, false, false, false], run := fun α vs bs R h n0 K => match vs, bs, R with | [.one (.bool b1033), .one (.int .i64 x1034), .one (.bool b1035), .ptr (.loc 5 0), .one (.int .i64 x1036), .one (.bool b1037)], [some (81, [.int .u64 x1038, .int .u64 x1039])], [] => f46_j0 call N n0 (fun x1367 x1368 h1369 => K .ret (stF [false, false, false, false, false, false, false, false, true, true, false, false, false, false, false, false, false, false, false, false, false, false, false, false, false, false, false, false, false, false, false, false, false, false, false, false, false, false, false, false, false, false, false, false, false, false, false, false, false, false, false, false, false, false, false, false, false, false, false, false, false, false, false, false, false, false, false, false, false, false, false, false, false, false, false, false, false, false, false, false, false, false, false, false, false, false, false, false, false, false, false, false, false, false, false, false, false, false, false, false, false, false, false, false, false, false, false, false, false, false, false, false, false, false, false, false, false, false, false, false, false, false, false, false, false, false, false, false, false, false, false, false, false, false, false, false, false, false, false, false, false] [false, false, false, false, false, false, false, false, false, false, false, false, false, false, false, false, false, false, false, false, false, false, false, false, false, false, false, false, false, false, false, false, false, false, false, false, false, false, false, false, false, false, false, false, false, false, false, false, false, false, false, false, false, false, false, false, false, false, false, false, false, false, false, false, false, false, false, false, false, false, false, false, false, false, false, false, false, false, false, false, false, false, false, false, false, false, false, false, false, false, false, false, false, false, false, false, false, false, false, false, false, false, false, false, false, false, false, false, false, false, false, false, false, false, false, false, false, false, false, false, false, false, false, false, false, false, false, false, false, false, false, false, false, false, false, false, false, false, false, false, false] [.one (.int .u64 x1367), .one (.int .u8 x1368)] [] [] h1369 n0)) b1033 x1034 b1035 x1036 b1037 x1038 x1039 h | _, _, _ => none }
noncomputable def f46_root : Code := Go.Proofs.Try.f46.body.getD .skip
theorem f46_j1_ok (call : Nat → List V → List Box → Heap → Option Res) (N : Nat) (hN : 64 ≤ N) : CutOK E.tab E.gd call (E.scr 46) N (f46_j1_c call N) (codeAt f46_root [1, 1, 1, 1, 0, 1, 0, 1, 1, 1, 1, 1, 1, 1]) := by
  refine join_ok hN cutL_nil ?_
  intro α vs bs R H n0 K y h
  simp only [f46_j1_c] at h
  split at h
  · exact Eq.trans (by kernel_rfl) h
  · cases h
def f46_t0 (call : Nat → List V → List Box → Heap → Option Res) (N : Nat) : List (List Nat × Cut) := ([1, 1, 1, 1, 0, 1, 0, 1, 1, 1, 1, 1, 1, 1], f46_j1_c call N) :: []
theorem f46_ok0 (call : Nat → List V → List Box → Heap → Option Res) (N : Nat) (hN : 64 ≤ N) : CutsOK E.tab E.gd call (E.scr 46) N (cutL (f46_t0 call N)) f46_root := cutL_cons (f46_j1_ok call N hN) cutL_nil
theorem f46_j4_ok (call : Nat → List V → List Box → Heap → Option Res) (N : Nat) (hN : 64 ≤ N) : CutOK E.tab E.gd call (E.scr 46) N (f46_j4_c call N) (codeAt f46_root [1, 1, 1, 1, 1, 1, 1, 1, 1, 1, 1, 1, 1]) := by
  refine join_ok hN (f46_ok0 call N hN) ?_
  intro α vs bs R H n0 K y h
  simp only [f46_j4_c] at h
  split at h
  · exact Eq.trans (by kernel_rfl) h
  · cases h
def f46_t1 (call : Nat → List V → List Box → Heap → Option Res) (N : Nat) : List (List Nat × Cut) := ([1, 1, 1, 1, 1, 1, 1, 1, 1, 1, 1, 1, 1], f46_j4_c call N) :: f46_t0 call N
theorem f46_ok1 (call : Nat → List V → List Box → Heap → Option Res) (N : Nat) (hN : 64 ≤ N) : CutsOK E.tab E.gd call (E.scr 46) N (cutL (f46_t1 call N)) f46_root := cutL_cons (f46_j4_ok call N hN) (f46_ok0 call N hN)
theorem f46_j3_ok (call : Nat → List V → List Box → Heap → Option Res) (N : Nat) (hN : 64 ≤ N) : CutOK E.tab E.gd call (E.scr 46) N (f46_j3_c call N) (codeAt f46_root [1, 1, 1, 1, 1, 1, 1, 1, 1, 1, 1]) := by
  refine join_ok hN (f46_ok1 call N hN) ?_
  intro α vs bs R H n0 K y h
  simp only [f46_j3_c] at h
  split at h
  · exact Eq.trans (by kernel_rfl) h
  · cases h
def f46_t2 (call : Nat → List V → List Box → Heap → Option Res) (N : Nat) : List (List Nat × Cut) := ([1, 1, 1, 1, 1, 1, 1, 1, 1, 1, 1], f46_j3_c call N) :: f46_t1 call N
theorem f46_ok2 (call : Nat → List V → List Box → Heap → Option Res) (N : Nat) (hN : 64 ≤ N) : CutsOK E.tab E.gd call (E.scr 46) N (cutL (f46_t2 call N)) f46_root := cutL_cons (f46_j3_ok call N hN) (f46_ok1 call N hN)
theorem f46_j2_ok (call : Nat → List V → List Box → Heap → Option Res) (N : Nat) (hN : 64 ≤ N) : CutOK E.tab E.gd call (E.scr 46) N (f46_j2_c call N) (codeAt f46_root [1, 1, 1, 1, 1, 1, 1, 1]) := by
  refine join_ok hN (f46_ok2 call N hN) ?_
  intro α vs bs R H n0 K y h
  simp only [f46_j2_c] at h
  split at h
  · exact Eq.trans (by kernel_rfl) h
  · cases h
def f46_t3 (call : Nat → List V → List Box → Heap → Option Res) (N : Nat) : List (List Nat × Cut) := ([1, 1, 1, 1, 1, 1, 1, 1], f46_j2_c call N) :: f46_t2 call N
theorem f46_ok3 (call : Nat → List V → List Box → Heap → Option Res) (N : Nat) (hN : 64 ≤ N) : CutsOK E.tab E.gd call (E.scr 46) N (cutL (f46_t3 call N)) f46_root := cutL_cons (f46_j2_ok call N hN) (f46_ok2 call N hN)
theorem f46_j0_ok (call : Nat → List V → List Box → Heap → Option Res) (N : Nat) (hN : 64 ≤ N) : CutOK E.tab E.gd call (E.scr 46) N (f46_j0_c call N) (codeAt f46_root [1, 1, 1, 1, 1, 1]) := by
  refine join_ok hN (f46_ok3 call N hN) ?_
  intro α vs bs R H n0 K y h
  simp only [f46_j0_c] at h
  split at h
  · exact Eq.trans (by kernel_rfl) h
  · cases h
def f46_t4 (call : Nat → List V → List Box → Heap → Option Res) (N : Nat) : List (List Nat × Cut) := ([1, 1, 1, 1, 1, 1], f46_j0_c call N) :: f46_t3 call N
theorem f46_ok4 (call : Nat → List V → List Box → Heap → Option Res) (N : Nat) (hN : 64 ≤ N) : CutsOK E.tab E.gd call (E.scr 46) N (cutL (f46_t4 call N)) f46_root := cutL_cons (f46_j0_ok call N hN) (f46_ok3 call N hN)
theorem f46_eq (call : Nat → List V → List Box → Heap → Option Res) (N : Nat) (a1 : Bool) (a2 : Int) (a3 : Int) (a4 : Int) (a5 : Bool) (h0 : Heap) : evF E call 46 (cutL (f46_t4 call N)) [.one (.bool a1), .agg [.int .u64 a2, .int .u64 a3], .one (.int .i64 a4), .one (.bool a5)] [] h0 = f46 call N a1 a2 a3 a4 a5 h0 := by kernel_rfl
theorem f46_le {d : Nat} {a1 : Bool} {a2 : Int} {a3 : Int} {a4 : Int} {a5 : Bool} {h0 : Heap} {r : Res} (h : f46 (ev E d) E.N a1 a2 a3 a4 a5 h0 = some r) : ev E (d + 1) 46 [.one (.bool a1), .agg [.int .u64 a2, .int .u64 a3], .one (.int .i64 a4), .one (.bool a5)] [] h0 = some r := by
  have hN : 64 ≤ E.N := by decide
  rw [← f46_eq] at h
  exact evF_le hN (f := 46) (by kernel_rfl) (fn := Go.Proofs.Try.f46) (c := f46_root) Go.Proofs.Try.func46 (by kernel_rfl) (f46_ok4 (ev E d) E.N hN) h
end Go.Ev.Try
end

noncomputable section
set_option linter.all false
set_option maxRecDepth 100000
/- (gimbal/wide.Wide).Left. Printed by seat.py. -/
namespace Go.Ev.Try
open Go.Ev
def f48 (call : Nat → List V → List Box → Heap → Option Res) (N : Nat) (a1 : Int) (a2 : Int) (a3 : Int) (h0 : Heap) : Option Res :=
  (bif (decide (a3 ≤ 0)) then (some (.agg [.int .u64 a1, .int .u64 a2], [], h0)) else (bif (decide (a3 ≥ 128)) then (some (.agg [.int .u64 0, .int .u64 0], [], h0)) else (bif (decide (a3 ≥ 64)) then (let x1012 : Int := (IntKind.wrap .i64 (a3 - 64)); (bif (decide (x1012 < 0)) then none else (some (.agg [.int .u64 (shlI .u64 a2 x1012), .int .u64 0], [], h0)))) else (bif (decide (a3 < 0)) then none else (let x1013 : Int := (IntKind.wrap .i64 (64 - a3)); (bif (decide (x1013 < 0)) then none else (let x1014 : Int := (bitI .or .u64 (shlI .u64 a1 a3) (shrI .u64 a2 x1013)); (bif (decide (a3 < 0)) then none else (some (.agg [.int .u64 x1014, .int .u64 (shlI .u64 a2 a3)], [], h0))))))))))
noncomputable def f48_root : Code := Go.Proofs.Try.f48.body.getD .skip
theorem f48_eq (call : Nat → List V → List Box → Heap → Option Res) (N : Nat) (a1 : Int) (a2 : Int) (a3 : Int) (h0 : Heap) : evF E call 48 (cutL []) [.agg [.int .u64 a1, .int .u64 a2], .one (.int .i64 a3)] [] h0 = f48 call N a1 a2 a3 h0 := by kernel_rfl
theorem f48_le {d : Nat} {a1 : Int} {a2 : Int} {a3 : Int} {h0 : Heap} {r : Res} (h : f48 (ev E d) E.N a1 a2 a3 h0 = some r) : ev E (d + 1) 48 [.agg [.int .u64 a1, .int .u64 a2], .one (.int .i64 a3)] [] h0 = some r := by
  have hN : 64 ≤ E.N := by decide
  rw [← f48_eq] at h
  exact evF_le hN (f := 48) (by kernel_rfl) (fn := Go.Proofs.Try.f48) (c := f48_root) Go.Proofs.Try.func48 (by kernel_rfl) cutL_nil h
end Go.Ev.Try
end

noncomputable section
set_option linter.all false
set_option maxRecDepth 100000
/- (gimbal/wide.Wide).Right. Printed by seat.py. -/
namespace Go.Ev.Try
open Go.Ev
def f49_j0 {α : Type} (call : Nat → List V → List Box → Heap → Option Res) (N n0 : Nat) (K0 : Bool → Int → Int → Heap → Option α) (x1014 : Int) (x1015 : Int) (x1016 : Int) (x1017 : Int) (x1018 : Int) (h1019 : Heap) : Option α :=
  (Option.bind (call 48 [.agg [.int .u64 x1017, .int .u64 x1018], .one (.int .i64 x1014)] [] h1019) fun p1044 => (rA p1044.1 fun q1045 => (cI .u64 q1045 fun x1047 q1046 => (cI .u64 q1046 fun x1049 q1048 => (cN q1048 (bN p1044.2.1 (let h1050 : Heap := (List.take (List.length h1019) p1044.2.2); (bif (!(x1047 == x1015 && (x1049 == x1016 && true))) then (K0 true x1017 x1018 h1050) else (bif (decide (x1014 ≥ 128)) then (Option.bind (call 52 [.agg [.int .u64 x1015, .int .u64 x1016]] [] h1050) fun p1051 => (rB p1051.1 fun b1052 => (bN p1051.2.1 (let h1053 : Heap := (List.take (List.length h1050) p1051.2.2); (K0 (!b1052) x1017 x1018 h1053))))) else (K0 false x1017 x1018 h1050))))))))))
def f49 (call : Nat → List V → List Box → Heap → Option Res) (N : Nat) (a1 : Int) (a2 : Int) (a3 : Int) (h0 : Heap) : Option Res :=
  (bif (decide (a3 ≤ 0)) then (some (.tup [.agg [.int .u64 a1, .int .u64 a2], .one (.bool false)], [], h0)) else (bif (decide (a3 ≥ 128)) then (f49_j0 call N (List.length h0) (fun b1054 x1055 x1056 h1057 => (some (.tup [.agg [.int .u64 x1055, .int .u64 x1056], .one (.bool b1054)], [], h1057))) a3 a1 a2 0 0 h0) else (bif (decide (a3 ≥ 64)) then (let x1058 : Int := (IntKind.wrap .i64 (a3 - 64)); (bif (decide (x1058 < 0)) then none else (f49_j0 call N (List.length h0) (fun b1059 x1060 x1061 h1062 => (some (.tup [.agg [.int .u64 x1060, .int .u64 x1061], .one (.bool b1059)], [], h1062))) a3 a1 a2 0 (shrI .u64 a1 x1058) h0))) else (bif (decide (a3 < 0)) then none else (let x1063 : Int := (IntKind.wrap .i64 (64 - a3)); (bif (decide (x1063 < 0)) then none else (bif (decide (a3 < 0)) then none else (let x1064 : Int := (bitI .or .u64 (shlI .u64 a1 x1063) (shrI .u64 a2 a3)); (f49_j0 call N (List.length h0) (fun b1065 x1066 x1067 h1068 => (some (.tup [.agg [.int .u64 x1066, .int .u64 x1067], .one (.bool b1065)], [], h1068))) a3 a1 a2 (shrI .u64 a1 a3) x1064 h0)))))))))
def f49_j0_c (call : Nat → List V → List Box → Heap → Option Res) (N : Nat) : Cut := { fr := [false, true, true, false, true, false, true, false, false, false, false, false, false, false, false, false, false, false, false, false, false, false, false, false, false, false, false, false, false, false, false, false, false, false, false, false, false, false, false, false, false, false, false, false, false, false, false, false, false, false, false, false, false], bx := [false, false, true, false, true, false, true, false, false, false, false, false, false, false, false, false, false, false, false, false, false, false, false, false, false, false, false, false, false, false, false, false, false, false, false, false, false, false, false, false, false, false, false, false, false, false, false, false, false, false, false, false, false], run := fun α vs bs R h n0 K => match vs, bs, R with | [.one (.int .i64 x1014), .ptr (.loc 2 0), .ptr (.loc 4 0), .ptr (.loc 6 0)], [some (81, [.int .u64 x1015, .int .u64 x1016]), some (81, [.int .u64 0, .int .u64 0]), some (81, [.int .u64 x1017, .int .u64 x1018])], [] => f49_j0 call N n0 (fun b1040 x1041 x1042 h1043 => K .ret (stF [false, false, false, false, true, true, false, false, false, false, false, false, false, false, false, false, false, false, false, false, false, false, false, false, false, false, false, false, false, false, false, false, false, false, false, false, false, false, false, false, false, false, false, false, false, false, false, false, false, false, false, false, false] [false, false, false, false, true, false, false, false, false, false, false, false, false, false, false, false, false, false, false, false, false, false, false, false, false, false, false, false, false, false, false, false, false, false, false, false, false, false, false, false, false, false, false, false, false, false, false, false, false, false, false, false, false] [.ptr (.loc 4 0), .one (.bool b1040)] [some (81, [.int .u64 x1041, .int .u64 x1042])] [] h1043 n0)) x1014 x1015 x1016 x1017 x1018 h | _, _, _ => none }
noncomputable def f49_root : Code := Go.Proofs.Try.f49.body.getD .skip
theorem f49_j0_ok (call : Nat → List V → List Box → Heap → Option Res) (N : Nat) (hN : 64 ≤ N) : CutOK E.tab E.gd call (E.scr 49) N (f49_j0_c call N) (codeAt f49_root [1, 1, 1]) := by
  refine join_ok hN cutL_nil ?_
  intro α vs bs R H n0 K y h
  simp only [f49_j0_c] at h
  split at h
  · exact Eq.trans (by kernel_rfl) h
  · cases h
def f49_t0 (call : Nat → List V → List Box → Heap → Option Res) (N : Nat) : List (List Nat × Cut) := ([1, 1, 1], f49_j0_c call N) :: []
theorem f49_ok0 (call : Nat → List V → List Box → Heap → Option Res) (N : Nat) (hN : 64 ≤ N) : CutsOK E.tab E.gd call (E.scr 49) N (cutL (f49_t0 call N)) f49_root := cutL_cons (f49_j0_ok call N hN) cutL_nil
theorem f49_eq (call : Nat → List V → List Box → Heap → Option Res) (N : Nat) (a1 : Int) (a2 : Int) (a3 : Int) (h0 : Heap) : evF E call 49 (cutL (f49_t0 call N)) [.agg [.int .u64 a1, .int .u64 a2], .one (.int .i64 a3)] [] h0 = f49 call N a1 a2 a3 h0 := by kernel_rfl
theorem f49_le {d : Nat} {a1 : Int} {a2 : Int} {a3 : Int} {h0 : Heap} {r : Res} (h : f49 (ev E d) E.N a1 a2 a3 h0 = some r) : ev E (d + 1) 49 [.agg [.int .u64 a1, .int .u64 a2], .one (.int .i64 a3)] [] h0 = some r := by
  have hN : 64 ≤ E.N := by decide
  rw [← f49_eq] at h
  exact evF_le hN (f := 49) (by kernel_rfl) (fn := Go.Proofs.Try.f49) (c := f49_root) Go.Proofs.Try.func49 (by kernel_rfl) (f49_ok0 (ev E d) E.N hN) h
end Go.Ev.Try
end

noncomputable section
set_option linter.all false
set_option maxRecDepth 100000
/- (gimbal/wide.Wide).Add. Printed by seat.py. -/
namespace Go.Ev.Try
open Go.Ev
def f50 (call : Nat → List V → List Box → Heap → Option Res) (N : Nat) (a1 : Int) (a2 : Int) (a3 : Int) (a4 : Int) (h0 : Heap) : Option Res :=
  (Option.bind (call 60 [.one (.int .u64 a2), .one (.int .u64 a4), .one (.int .u64 0)] [] h0) fun p1019 => (rT p1019.1 fun q1020 => (tL q1020 fun v1021 q1022 => (rI .u64 v1021 fun x1023 => (tL q1022 fun v1024 q1025 => (rI .u64 v1024 fun x1026 => (tN q1025 (bN p1019.2.1 (let h1027 : Heap := (List.take (List.length h0) p1019.2.2); (Option.bind (call 60 [.one (.int .u64 a1), .one (.int .u64 a3), .one (.int .u64 x1026)] [] h1027) fun p1028 => (rT p1028.1 fun q1029 => (tL q1029 fun v1030 q1031 => (rI .u64 v1030 fun x1032 => (tL q1031 fun v1033 q1034 => (rI .u64 v1033 fun x1035 => (tN q1034 (bN p1028.2.1 (let h1036 : Heap := (List.take (List.length h1027) p1028.2.2); (some (.tup [.agg [.int .u64 x1032, .int .u64 x1023], .one (.bool (x1035 == 1))], [], h1036))))))))))))))))))))
noncomputable def f50_root : Code := Go.Proofs.Try.f50.body.getD .skip
theorem f50_eq (call : Nat → List V → List Box → Heap → Option Res) (N : Nat) (a1 : Int) (a2 : Int) (a3 : Int) (a4 : Int) (h0 : Heap) : evF E call 50 (cutL []) [.agg [.int .u64 a1, .int .u64 a2], .agg [.int .u64 a3, .int .u64 a4]] [] h0 = f50 call N a1 a2 a3 a4 h0 := by kernel_rfl
theorem f50_le {d : Nat} {a1 : Int} {a2 : Int} {a3 : Int} {a4 : Int} {h0 : Heap} {r : Res} (h : f50 (ev E d) E.N a1 a2 a3 a4 h0 = some r) : ev E (d + 1) 50 [.agg [.int .u64 a1, .int .u64 a2], .agg [.int .u64 a3, .int .u64 a4]] [] h0 = some r := by
  have hN : 64 ≤ E.N := by decide
  rw [← f50_eq] at h
  exact evF_le hN (f := 50) (by kernel_rfl) (fn := Go.Proofs.Try.f50) (c := f50_root) Go.Proofs.Try.func50 (by kernel_rfl) cutL_nil h
end Go.Ev.Try
end

noncomputable section
set_option linter.all false
set_option maxRecDepth 100000
/- (gimbal/wide.Wide).Sub. Printed by seat.py. -/
namespace Go.Ev.Try
open Go.Ev
def f51 (call : Nat → List V → List Box → Heap → Option Res) (N : Nat) (a1 : Int) (a2 : Int) (a3 : Int) (a4 : Int) (h0 : Heap) : Option Res :=
  (Option.bind (call 61 [.one (.int .u64 a2), .one (.int .u64 a4), .one (.int .u64 0)] [] h0) fun p1019 => (rT p1019.1 fun q1020 => (tL q1020 fun v1021 q1022 => (rI .u64 v1021 fun x1023 => (tL q1022 fun v1024 q1025 => (rI .u64 v1024 fun x1026 => (tN q1025 (bN p1019.2.1 (let h1027 : Heap := (List.take (List.length h0) p1019.2.2); (Option.bind (call 61 [.one (.int .u64 a1), .one (.int .u64 a3), .one (.int .u64 x1026)] [] h1027) fun p1028 => (rT p1028.1 fun q1029 => (tL q1029 fun v1030 q1031 => (rI .u64 v1030 fun x1032 => (tL q1031 fun v1033 q1034 => (rI .u64 v1033 fun x1035 => (tN q1034 (bN p1028.2.1 (let h1036 : Heap := (List.take (List.length h1027) p1028.2.2); (some (.tup [.agg [.int .u64 x1032, .int .u64 x1023], .one (.bool (x1035 == 1))], [], h1036))))))))))))))))))))
noncomputable def f51_root : Code := Go.Proofs.Try.f51.body.getD .skip
theorem f51_eq (call : Nat → List V → List Box → Heap → Option Res) (N : Nat) (a1 : Int) (a2 : Int) (a3 : Int) (a4 : Int) (h0 : Heap) : evF E call 51 (cutL []) [.agg [.int .u64 a1, .int .u64 a2], .agg [.int .u64 a3, .int .u64 a4]] [] h0 = f51 call N a1 a2 a3 a4 h0 := by kernel_rfl
theorem f51_le {d : Nat} {a1 : Int} {a2 : Int} {a3 : Int} {a4 : Int} {h0 : Heap} {r : Res} (h : f51 (ev E d) E.N a1 a2 a3 a4 h0 = some r) : ev E (d + 1) 51 [.agg [.int .u64 a1, .int .u64 a2], .agg [.int .u64 a3, .int .u64 a4]] [] h0 = some r := by
  have hN : 64 ≤ E.N := by decide
  rw [← f51_eq] at h
  exact evF_le hN (f := 51) (by kernel_rfl) (fn := Go.Proofs.Try.f51) (c := f51_root) Go.Proofs.Try.func51 (by kernel_rfl) cutL_nil h
end Go.Ev.Try
end

noncomputable section
set_option linter.all false
set_option maxRecDepth 100000
/- (gimbal/wide.Wide).Zero. Printed by seat.py. -/
namespace Go.Ev.Try
open Go.Ev
def f52 (call : Nat → List V → List Box → Heap → Option Res) (N : Nat) (a1 : Int) (a2 : Int) (h0 : Heap) : Option Res :=
  (some (.one (.bool ((bitI .or .u64 a1 a2) == 0)), [], h0))
noncomputable def f52_root : Code := Go.Proofs.Try.f52.body.getD .skip
theorem f52_eq (call : Nat → List V → List Box → Heap → Option Res) (N : Nat) (a1 : Int) (a2 : Int) (h0 : Heap) : evF E call 52 (cutL []) [.agg [.int .u64 a1, .int .u64 a2]] [] h0 = f52 call N a1 a2 h0 := by kernel_rfl
theorem f52_le {d : Nat} {a1 : Int} {a2 : Int} {h0 : Heap} {r : Res} (h : f52 (ev E d) E.N a1 a2 h0 = some r) : ev E (d + 1) 52 [.agg [.int .u64 a1, .int .u64 a2]] [] h0 = some r := by
  have hN : 64 ≤ E.N := by decide
  rw [← f52_eq] at h
  exact evF_le hN (f := 52) (by kernel_rfl) (fn := Go.Proofs.Try.f52) (c := f52_root) Go.Proofs.Try.func52 (by kernel_rfl) cutL_nil h
end Go.Ev.Try
end

noncomputable section
set_option linter.all false
set_option maxRecDepth 100000
/- gimbal/word.Frac. Printed by seat.py. -/
namespace Go.Ev.Try
open Go.Ev
def f53 (call : Nat → List V → List Box → Heap → Option Res) (N : Nat) (a1 : Int) (h0 : Heap) : Option Res :=
  (let x1002 : Int := (bitI .and .u64 a1 4503599627370495); (some (.one (.int .u64 x1002), [], h0)))
noncomputable def f53_root : Code := Go.Proofs.Try.f53.body.getD .skip
theorem f53_eq (call : Nat → List V → List Box → Heap → Option Res) (N : Nat) (a1 : Int) (h0 : Heap) : evF E call 53 (cutL []) [.one (.int .u64 a1)] [] h0 = f53 call N a1 h0 := by kernel_rfl
theorem f53_le {d : Nat} {a1 : Int} {h0 : Heap} {r : Res} (h : f53 (ev E d) E.N a1 h0 = some r) : ev E (d + 1) 53 [.one (.int .u64 a1)] [] h0 = some r := by
  have hN : 64 ≤ E.N := by decide
  rw [← f53_eq] at h
  exact evF_le hN (f := 53) (by kernel_rfl) (fn := Go.Proofs.Try.f53) (c := f53_root) Go.Proofs.Try.func53 (by kernel_rfl) cutL_nil h
end Go.Ev.Try
end

noncomputable section
set_option linter.all false
set_option maxRecDepth 100000
/- gimbal/word.Signals. Printed by seat.py. -/
namespace Go.Ev.Try
open Go.Ev
def f56 (call : Nat → List V → List Box → Heap → Option Res) (N : Nat) (a1 : Int) (h0 : Heap) : Option Res :=
  (Option.bind (call 36 [.one (.int .u64 a1)] [] h0) fun p1007 => (rI .i64 p1007.1 fun x1008 => (bN p1007.2.1 (let h1009 : Heap := (List.take (List.length h0) p1007.2.2); (bif (x1008 == 5) then (let x1010 : Int := (bitI .and .u64 (shrI .u64 a1 51) 1); (some (.one (.bool (x1010 == 0)), [], h1009))) else (some (.one (.bool false), [], h1009)))))))
noncomputable def f56_root : Code := Go.Proofs.Try.f56.body.getD .skip
theorem f56_eq (call : Nat → List V → List Box → Heap → Option Res) (N : Nat) (a1 : Int) (h0 : Heap) : evF E call 56 (cutL []) [.one (.int .u64 a1)] [] h0 = f56 call N a1 h0 := by kernel_rfl
theorem f56_le {d : Nat} {a1 : Int} {h0 : Heap} {r : Res} (h : f56 (ev E d) E.N a1 h0 = some r) : ev E (d + 1) 56 [.one (.int .u64 a1)] [] h0 = some r := by
  have hN : 64 ≤ E.N := by decide
  rw [← f56_eq] at h
  exact evF_le hN (f := 56) (by kernel_rfl) (fn := Go.Proofs.Try.f56) (c := f56_root) Go.Proofs.Try.func56 (by kernel_rfl) cutL_nil h
end Go.Ev.Try
end

noncomputable section
set_option linter.all false
set_option maxRecDepth 100000
/- (gimbal/wide.Wide).Len. Printed by seat.py. -/
namespace Go.Ev.Try
open Go.Ev
def f57 (call : Nat → List V → List Box → Heap → Option Res) (N : Nat) (a1 : Int) (a2 : Int) (h0 : Heap) : Option Res :=
  (bif (a1 != 0) then (Option.bind (call 64 [.one (.int .u64 a1)] [] h0) fun p1010 => (rI .i64 p1010.1 fun x1011 => (bN p1010.2.1 (let h1012 : Heap := (List.take (List.length h0) p1010.2.2); (let x1013 : Int := (IntKind.wrap .i64 (64 + x1011)); (some (.one (.int .i64 x1013), [], h1012))))))) else (Option.bind (call 64 [.one (.int .u64 a2)] [] h0) fun p1014 => (rI .i64 p1014.1 fun x1015 => (bN p1014.2.1 (let h1016 : Heap := (List.take (List.length h0) p1014.2.2); (some (.one (.int .i64 x1015), [], h1016)))))))
noncomputable def f57_root : Code := Go.Proofs.Try.f57.body.getD .skip
theorem f57_eq (call : Nat → List V → List Box → Heap → Option Res) (N : Nat) (a1 : Int) (a2 : Int) (h0 : Heap) : evF E call 57 (cutL []) [.agg [.int .u64 a1, .int .u64 a2]] [] h0 = f57 call N a1 a2 h0 := by kernel_rfl
theorem f57_le {d : Nat} {a1 : Int} {a2 : Int} {h0 : Heap} {r : Res} (h : f57 (ev E d) E.N a1 a2 h0 = some r) : ev E (d + 1) 57 [.agg [.int .u64 a1, .int .u64 a2]] [] h0 = some r := by
  have hN : 64 ≤ E.N := by decide
  rw [← f57_eq] at h
  exact evF_le hN (f := 57) (by kernel_rfl) (fn := Go.Proofs.Try.f57) (c := f57_root) Go.Proofs.Try.func57 (by kernel_rfl) cutL_nil h
end Go.Ev.Try
end

noncomputable section
set_option linter.all false
set_option maxRecDepth 100000
/- gimbal/round.split. Printed by seat.py. -/
namespace Go.Ev.Try
open Go.Ev
def f58 (call : Nat → List V → List Box → Heap → Option Res) (N : Nat) (a1 : Int) (a2 : Int) (a3 : Int) (a4 : Bool) (h0 : Heap) : Option Res :=
  (bif (decide (a3 > 128)) then (some (.tup [.one (.bool false), .one (.bool a4)], [], h0)) else (let x1018 : Int := (IntKind.wrap .i64 (a3 - 1)); (Option.bind (call 49 [.agg [.int .u64 a1, .int .u64 a2], .one (.int .i64 x1018)] [] h0) fun p1019 => (rT p1019.1 fun q1020 => (tL q1020 fun v1021 q1022 => (rA v1021 fun q1023 => (cI .u64 q1023 fun x1025 q1024 => (cI .u64 q1024 fun x1027 q1026 => (cN q1026 (tL q1022 fun v1028 q1029 => (rB v1028 fun b1030 => (tN q1029 (bN p1019.2.1 (let h1031 : Heap := (List.take (List.length h0) p1019.2.2); (some (.tup [.one (.bool ((bitI .and .u64 x1027 1) == 1)), .one (.bool b1030)], [], h1031))))))))))))))))
noncomputable def f58_root : Code := Go.Proofs.Try.f58.body.getD .skip
theorem f58_eq (call : Nat → List V → List Box → Heap → Option Res) (N : Nat) (a1 : Int) (a2 : Int) (a3 : Int) (a4 : Bool) (h0 : Heap) : evF E call 58 (cutL []) [.agg [.int .u64 a1, .int .u64 a2], .one (.int .i64 a3), .one (.bool a4)] [] h0 = f58 call N a1 a2 a3 a4 h0 := by kernel_rfl
theorem f58_le {d : Nat} {a1 : Int} {a2 : Int} {a3 : Int} {a4 : Bool} {h0 : Heap} {r : Res} (h : f58 (ev E d) E.N a1 a2 a3 a4 h0 = some r) : ev E (d + 1) 58 [.agg [.int .u64 a1, .int .u64 a2], .one (.int .i64 a3), .one (.bool a4)] [] h0 = some r := by
  have hN : 64 ≤ E.N := by decide
  rw [← f58_eq] at h
  exact evF_le hN (f := 58) (by kernel_rfl) (fn := Go.Proofs.Try.f58) (c := f58_root) Go.Proofs.Try.func58 (by kernel_rfl) cutL_nil h
end Go.Ev.Try
end

section
set_option linter.all false
/- All printed functions. -/
end

section
set_option linter.all false
/- What the functions of package word come to. -/
namespace Go.Ev.Try
open Go.Ev
variable {D : Nat} {H : Heap}

theorem s_Exp (hD : 1 ≤ D) (b : Nat) (hb : b < 18446744073709551616) : ev E D 40 [.one (.int .u64 (b : Int))] [] H = some (.one (.int .i64 (bExp b : Int)), [], H) := by
  obtain ⟨d, rfl⟩ : ∃ d, D = d + 1 := ⟨D - 1, by omega⟩
  refine f40_le ?_
  simp only [f40, and_exp b hb]
  rw [wrap_i64 _ (by omega) (by unfold bExp; omega)]

theorem s_Frac (hD : 1 ≤ D) (b : Nat) (hb : b < 18446744073709551616) : ev E D 53 [.one (.int .u64 (b : Int))] [] H = some (.one (.int .u64 (bFrac b : Int)), [], H) := by
  obtain ⟨d, rfl⟩ : ∃ d, D = d + 1 := ⟨D - 1, by omega⟩
  refine f53_le ?_
  simp only [f53, and_frac b hb]

theorem s_Neg (hD : 1 ≤ D) (b : Nat) (hb : b < 18446744073709551616) : ev E D 39 [.one (.int .u64 (b : Int))] [] H = some (.one (.bool (bNeg b)), [], H) := by
  obtain ⟨d, rfl⟩ : ∃ d, D = d + 1 := ⟨D - 1, by omega⟩
  refine f39_le ?_
  simp only [f39, shr_neg b hb]

theorem s_Abs (hD : 1 ≤ D) (b : Nat) (hb : b < 18446744073709551616) : ev E D 9 [.one (.int .u64 (b : Int))] [] H = some (.one (.int .u64 (bAbs b : Int)), [], H) := by
  obtain ⟨d, rfl⟩ : ∃ d, D = d + 1 := ⟨D - 1, by omega⟩
  refine f9_le ?_
  simp only [f9, abs_u64 b hb]

theorem s_Kind (hD : 2 ≤ D) (b : Nat) (hb : b < 18446744073709551616) : ev E D 36 [.one (.int .u64 (b : Int))] [] H = some (.one (.int .i64 (bKind b : Int)), [], H) := by
  obtain ⟨d, rfl⟩ : ∃ d, D = d + 1 := ⟨D - 1, by omega⟩
  refine f36_le ?_
  simp only [f36, s_Exp (show 1 ≤ d by omega) b hb, s_Frac (show 1 ≤ d by omega) b hb, ob_some, rI_int, rB_bool, rC_one, rA_agg, rT_tup, tL_cons, tN_nil, cI_cons, cB_cons, cO_cons, cN_nil, bL_cons, bN_nil, optK_some, lenK_sl, lenK_nsl, List.take_length]
  simp only [Bool.cond_eq_ite, beq_iff_eq, decide_eq_true_eq]
  unfold bKind
  (repeat' split) <;> first | rfl | omega

theorem s_Finite (hD : 2 ≤ D) (b : Nat) (hb : b < 18446744073709551616) : ev E D 31 [.one (.int .u64 (b : Int))] [] H = some (.one (.bool (decide (bExp b < 2047))), [], H) := by
  obtain ⟨d, rfl⟩ : ∃ d, D = d + 1 := ⟨D - 1, by omega⟩
  refine f31_le ?_
  simp only [f31, s_Exp (show 1 ≤ d by omega) b hb, ob_some, rI_int, rB_bool, rC_one, rA_agg, rT_tup, tL_cons, tN_nil, cI_cons, cB_cons, cO_cons, cN_nil, bL_cons, bN_nil, optK_some, lenK_sl, lenK_nsl, List.take_length]
  have h : decide ((bExp b : Int) < 2047) = decide (bExp b < 2047) := by apply decide_eq_decide.2; omega
  rw [h]

theorem s_Signals (hD : 3 ≤ D) (b : Nat) (hb : b < 18446744073709551616) : ev E D 56 [.one (.int .u64 (b : Int))] [] H = some (.one (.bool (decide (bKind b = 5) && decide (b / 2251799813685248 % 2 = 0))), [], H) := by
  obtain ⟨d, rfl⟩ : ∃ d, D = d + 1 := ⟨D - 1, by omega⟩
  refine f56_le ?_
  have h1 := shr_nat .u64 b 51 (by decide)
  rw [show ((51 : Nat) : Int) = 51 from rfl] at h1
  have h2 := and_u64 (b / 2 ^ 51) 1 (by omega) (by omega)
  rw [show ((1 : Nat) : Int) = 1 from rfl] at h2
  have h3 : (b / 2 ^ 51) &&& 1 = b / 2 ^ 51 % 2 := Nat.and_two_pow_sub_one_eq_mod _ 1
  simp only [f56, s_Kind (show 2 ≤ d by omega) b hb, ob_some, rI_int, rB_bool, rC_one, rA_agg, rT_tup, tL_cons, tN_nil, cI_cons, cB_cons, cO_cons, cN_nil, bL_cons, bN_nil, optK_some, lenK_sl, lenK_nsl, List.take_length, h1, h2, h3]
  simp only [Bool.cond_eq_ite, beq_iff_eq]
  have h4 : ((b / 2 ^ 51 % 2 : Nat) == (0 : Int)) = decide (b / 2251799813685248 % 2 = 0) := by
    apply Bool.eq_iff_iff.2; simp only [beq_iff_eq, decide_eq_true_eq]; omega
  by_cases h5 : bKind b = 5
  · rw [if_pos (by omega), decide_eq_true h5, h4]; rfl
  · rw [if_neg (by omega), decide_eq_false h5]; rfl

theorem s_Parts (hD : 3 ≤ D) (b : Nat) (hb : b < 18446744073709551616) : ev E D 45 [.one (.int .u64 (b : Int))] [] H = some (.tup [.one (.int .u64 (bMan b : Int)), .one (.int .i64 (bPow b))], [], H) := by
  obtain ⟨d, rfl⟩ : ∃ d, D = d + 1 := ⟨D - 1, by omega⟩
  refine f45_le ?_
  have hf : bFrac b < 4503599627370496 := Nat.mod_lt _ (by decide)
  have he : bExp b < 2048 := Nat.mod_lt _ (by decide)
  have h2 := or_u64 (bFrac b) 4503599627370496 (by omega) (by omega)
  rw [show ((4503599627370496 : Nat) : Int) = 4503599627370496 from rfl] at h2
  have h3 : bFrac b ||| 4503599627370496 = bFrac b + 4503599627370496 := by
    rw [Nat.or_comm, show (4503599627370496 : Nat) = 2 ^ 52 * 1 from rfl, or_add 1 _ 52 hf]; omega
  simp only [f45, s_Kind (show 2 ≤ d by omega) b hb, s_Frac (show 1 ≤ d by omega) b hb, s_Exp (show 1 ≤ d by omega) b hb, ob_some, rI_int, rB_bool, rC_one, rA_agg, rT_tup, tL_cons, tN_nil, cI_cons, cB_cons, cO_cons, cN_nil, bL_cons, bN_nil, optK_some, lenK_sl, lenK_nsl, List.take_length, h2, h3, wrap_i64 ((bExp b : Int) - 1075) (by omega) (by omega)]
  unfold bMan bPow
  simp only [Bool.cond_eq_ite, beq_iff_eq]
  by_cases h4 : bKind b = 2
  · rw [if_pos (by omega), if_pos h4, if_pos h4]
  · by_cases h5 : bKind b = 3
    · rw [if_neg (by omega), if_pos (by omega), if_neg h4, if_pos h5, if_neg h4, if_pos h5]
    · rw [if_neg (by omega), if_neg (by omega), if_neg h4, if_neg h5, if_neg h4, if_neg h5]; rfl

theorem s_Make (hD : 1 ≤ D) (neg : Bool) (e f : Nat) (he : e < 2048) (hf : f < 18446744073709551616) : ev E D 23 [.one (.bool neg), .one (.int .i64 (e : Int)), .one (.int .u64 (f : Int))] [] H = some (.one (.int .u64 (bMake neg e (bFrac f) : Int)), [], H) := by
  obtain ⟨d, rfl⟩ : ∃ d, D = d + 1 := ⟨D - 1, by omega⟩
  refine f23_le ?_
  have h1 := and_u64 e 2047 (by omega) (by omega)
  rw [show ((2047 : Nat) : Int) = 2047 from rfl, show e &&& 2047 = e % 2048 from Nat.and_two_pow_sub_one_eq_mod _ 11, Nat.mod_eq_of_lt he] at h1
  have h2 := and_frac f hf
  have hf : bFrac f < 4503599627370496 := Nat.mod_lt _ (by decide)
  generalize bFrac f = f at hf h2 ⊢
  have h3 := shl_u64 e 52 (by decide)
  rw [show ((52 : Nat) : Int) = 52 from rfl, Nat.mod_eq_of_lt (by omega)] at h3
  have h4 := or_u64 (e * 2 ^ 52) f (by omega) (by omega)
  rw [show e * 2 ^ 52 ||| f = e * 2 ^ 52 + f from by rw [Nat.mul_comm, or_add e f 52 hf]] at h4
  have h5 := or_u64 (e * 2 ^ 52 + f) 9223372036854775808 (by omega) (by omega)
  rw [show ((9223372036854775808 : Nat) : Int) = 9223372036854775808 from rfl, show (e * 2 ^ 52 + f) ||| 9223372036854775808 = 9223372036854775808 + (e * 2 ^ 52 + f) from by
    rw [Nat.or_comm, show (9223372036854775808 : Nat) = 2 ^ 63 * 1 from rfl, or_add 1 _ 63 (by omega)]] at h5
  simp only [f23, wrap_u64_id (e : Int) (by omega) (by omega), h1, h2, h3, h4, h5]
  cases neg
  · simp [bMake]
  · simp [bMake]; omega
end Go.Ev.Try
end

section
set_option linter.all false
/- What the functions of package wide come to. -/
namespace Go.Ev.Try
open Go.Ev
variable {D : Nat} {H : Heap}

theorem s_Left (hD : 1 ≤ D) (hi lo : Nat) (n : Nat) (h : hi < 18446744073709551616) (hl : lo < 18446744073709551616) (hn : n < 1000000) : ev E D 48 [.agg [.int .u64 (hi : Int), .int .u64 (lo : Int)], .one (.int .i64 (n : Int))] [] H = some (.agg [.int .u64 (wh (wv hi lo * 2 ^ n) : Int), .int .u64 (wl (wv hi lo * 2 ^ n) : Int)], [], H) := by
  obtain ⟨d, rfl⟩ : ∃ d, D = d + 1 := ⟨D - 1, by omega⟩
  refine f48_le ?_
  simp only [f48, cond_dec]
  by_cases h0 : n = 0
  · subst h0; rw [if_pos (by omega)]; simp only [Nat.pow_zero, Nat.mul_one, wh_wv hi lo h hl, wl_wv hi lo hl]
  rw [if_neg (by omega)]
  by_cases h1 : 128 ≤ n
  · rw [if_pos (by omega), (left_all hi lo n h1).1, (left_all hi lo n h1).2]; rfl
  rw [if_neg (by omega)]
  by_cases h2 : 64 ≤ n
  · rw [if_pos (by omega), wrap_i64 _ (by omega) (by omega), if_neg (by omega), show (n : Int) - 64 = ((n - 64 : Nat) : Int) from by omega, shl_u64 _ _ (by omega), (left_big hi lo n h2).1, (left_big hi lo n h2).2]; rfl
  rw [if_neg (by omega), if_neg (by omega), wrap_i64 _ (by omega) (by omega), if_neg (by omega), if_neg (by omega), show (64 : Int) - n = ((64 - n : Nat) : Int) from by omega, shl_u64 _ _ (by omega), shr_nat .u64 lo (64 - n) (by show _ ≤ 64; omega), shl_u64 _ _ (by omega), left_lo,
    or_u64 _ _ (Nat.mod_lt _ (by decide)) (Nat.lt_of_le_of_lt (Nat.div_le_self _ _) hl), left_hi hi lo n (by omega) hl]

theorem s_Zero (hD : 1 ≤ D) (hi lo : Nat) (h : hi < 18446744073709551616) (hl : lo < 18446744073709551616) : ev E D 52 [.agg [.int .u64 (hi : Int), .int .u64 (lo : Int)]] [] H = some (.one (.bool (decide (wv hi lo = 0))), [], H) := by
  obtain ⟨d, rfl⟩ : ∃ d, D = d + 1 := ⟨D - 1, by omega⟩
  refine f52_le ?_
  simp only [f52, or_u64 hi lo h hl]
  congr 4
  apply Bool.eq_iff_iff.2
  simp only [beq_iff_eq, decide_eq_true_eq]
  rw [show ((((hi ||| lo : Nat) : Int)) = 0) ↔ (hi ||| lo) = 0 from by omega, Nat.or_eq_zero_iff]
  unfold wv; omega

theorem j_Right {α : Type} (hD : 1 ≤ D) (hi lo n X : Nat) (h : hi < 18446744073709551616) (hl : lo < 18446744073709551616) (hn : n < 1000000) (hX : X = wv hi lo / 2 ^ n) (N n0 : Nat) (K : Bool → Int → Int → Heap → Option α) :
    f49_j0 (ev E D) N n0 K (n : Int) (hi : Int) (lo : Int) (wh X : Int) (wl X : Int) H = K (decide (wv hi lo % 2 ^ n ≠ 0)) (wh X : Int) (wl X : Int) H := by
  have hlt : X < 340282366920938463463374607431768211456 := by rw [hX]; exact Nat.lt_of_le_of_lt (Nat.div_le_self _ _) (wv_lt hi lo h hl)
  have hle : X * 2 ^ n < 340282366920938463463374607431768211456 := by
    rw [hX]; exact Nat.lt_of_le_of_lt (Nat.div_mul_le_self _ _) (wv_lt hi lo h hl)
  simp only [f49_j0, s_Left hD (wh X) (wl X) n (wh_lt _) (wl_lt _) hn, s_Zero hD hi lo h hl, cond_dec, ob_some, rI_int, rB_bool, rC_one, rA_agg, rT_tup, tL_cons, tN_nil, cI_cons, cB_cons, cO_cons, cN_nil, bL_cons, bN_nil, optK_some, lenK_sl, lenK_nsl, List.take_length]
  rw [wv_wh_wl X hlt]
  have hb := back_iff (wv hi lo) n
  rw [← hX] at hb
  by_cases hz : wv hi lo % 2 ^ n = 0
  · have e := hb.2 hz
    rw [e, wh_wv hi lo h hl, wl_wv hi lo hl]
    by_cases h1 : 128 ≤ n
    · have : wv hi lo = 0 := by
        rw [Nat.mod_eq_of_lt (Nat.lt_of_lt_of_le (wv_lt hi lo h hl) (Nat.le_trans (show 340282366920938463463374607431768211456 ≤ 2 ^ 128 by decide) (Nat.pow_le_pow_right (by decide) h1)))] at hz
        exact hz
      have e4 : ((hi : Int) == (hi : Int) && ((lo : Int) == (lo : Int) && true)) = true := by rw [beq_self_eq_true, beq_self_eq_true]; rfl
      rw [if_pos (show (n : Int) ≥ 128 from Int.ofNat_le.2 h1), decide_eq_true this, e4]
      rw [decide_eq_false (fun h => h hz)]; rfl
    · have e4 : ((hi : Int) == (hi : Int) && ((lo : Int) == (lo : Int) && true)) = true := by rw [beq_self_eq_true, beq_self_eq_true]; rfl
      rw [if_neg (show ¬ ((n : Int) ≥ 128) from fun h => h1 (Int.ofNat_le.1 h)), e4, decide_eq_false (fun h => h hz)]; rfl
  · have e : ¬ (wh (X * 2 ^ n) = hi ∧ wl (X * 2 ^ n) = lo) := by
      intro he
      apply hz; apply hb.1
      rw [← wv_wh_wl _ hle, he.1, he.2]
    have e4 : (((wh (X * 2 ^ n) : Nat) : Int) == (hi : Int) && (((wl (X * 2 ^ n) : Nat) : Int) == (lo : Int) && true)) = false := by
      apply Bool.eq_false_iff.2
      simp only [ne_eq, Bool.and_true, Bool.and_eq_true, beq_iff_eq]
      exact fun h => e ⟨Int.ofNat.inj h.1, Int.ofNat.inj h.2⟩
    rw [e4, decide_eq_true hz]; rfl

theorem s_Right (hD : 2 ≤ D) (hi lo : Nat) (n : Nat) (h : hi < 18446744073709551616) (hl : lo < 18446744073709551616) (hn : n < 1000000) : ev E D 49 [.agg [.int .u64 (hi : Int), .int .u64 (lo : Int)], .one (.int .i64 (n : Int))] [] H = some (.tup [.agg [.int .u64 (wh (wv hi lo / 2 ^ n) : Int), .int .u64 (wl (wv hi lo / 2 ^ n) : Int)], .one (.bool (decide (wv hi lo % 2 ^ n ≠ 0)))], [], H) := by
  obtain ⟨d, rfl⟩ : ∃ d, D = d + 1 := ⟨D - 1, by omega⟩
  refine f49_le ?_
  simp only [f49, cond_dec]
  by_cases h0 : n = 0
  · subst h0; rw [if_pos (by omega)]; simp only [Nat.pow_zero, Nat.div_one, Nat.mod_one, wh_wv hi lo h hl, wl_wv hi lo hl]; rfl
  rw [if_neg (by omega)]
  have key := fun K => j_Right (α := Res) (H := H) (D := d) (by omega) hi lo n _ h hl hn rfl E.N (List.length H) K
  by_cases h1 : 128 ≤ n
  · rw [if_pos (by omega)]
    rw [right_all hi lo n h1 h hl] at key ⊢
    exact key _
  rw [if_neg (by omega)]
  by_cases h2 : 64 ≤ n
  · rw [if_pos (by omega), wrap_i64 _ (by omega) (by omega), if_neg (by omega), show (n : Int) - 64 = ((n - 64 : Nat) : Int) from by omega, shr_nat .u64 hi (n - 64) (by show _ ≤ 64; omega)]
    rw [(right_big hi lo n h2 h hl).1, (right_big hi lo n h2 h hl).2] at key ⊢
    exact key _
  · rw [if_neg (by omega), if_neg (by omega), wrap_i64 _ (by omega) (by omega), if_neg (by omega), if_neg (by omega), show (64 : Int) - n = ((64 - n : Nat) : Int) from by omega, shl_u64 _ _ (by omega), shr_nat .u64 lo n (by show _ ≤ 64; omega), shr_nat .u64 hi n (by show _ ≤ 64; omega),
      or_u64 _ _ (Nat.mod_lt _ (by decide)) (Nat.lt_of_le_of_lt (Nat.div_le_self _ _) hl), ← right_hi hi lo n h hl, ← right_lo hi lo n (by omega) (by omega) hl]
    exact key _

theorem s_Add64 (hD : 1 ≤ D) (x y c : Nat) (hc : c ≤ 1) : ev E D 60 [.one (.int .u64 (x : Int)), .one (.int .u64 (y : Int)), .one (.int .u64 (c : Int))] [] H = some (.tup [.one (.int .u64 (((x + y + c) % 18446744073709551616 : Nat) : Int)), .one (.int .u64 (((x + y + c) / 18446744073709551616 : Nat) : Int))], [], H) := by
  obtain ⟨d, rfl⟩ : ∃ d, D = d + 1 := ⟨D - 1, by omega⟩
  have h : (decide (0 ≤ (x : Int)) && decide (0 ≤ (y : Int)) && decide (0 ≤ (c : Int)) && decide ((c : Int) ≤ 1)) = true := by simp only [Bool.and_eq_true, decide_eq_true_eq]; omega
  rw [show ev E (d + 1) 60 = fun args R H => (extV 0 args).map fun v => (v, R, H) from rfl]
  simp only [extV, h, cond_true, Option.map_some]
  rfl
theorem s_Sub64 (hD : 1 ≤ D) (x y c : Nat) (hx : x < 18446744073709551616) (hy : y < 18446744073709551616) (hc : c ≤ 1) : ev E D 61 [.one (.int .u64 (x : Int)), .one (.int .u64 (y : Int)), .one (.int .u64 (c : Int))] [] H = some (.tup [.one (.int .u64 (((18446744073709551616 + x - y - c) % 18446744073709551616 : Nat) : Int)), .one (.int .u64 ((if x < y + c then 1 else 0 : Nat) : Int))], [], H) := by
  obtain ⟨d, rfl⟩ : ∃ d, D = d + 1 := ⟨D - 1, by omega⟩
  have h : (decide (0 ≤ (x : Int)) && decide (0 ≤ (y : Int)) && decide ((y : Int) < two64) && decide (0 ≤ (c : Int)) && decide ((c : Int) ≤ 1)) = true := by
    simp only [Bool.and_eq_true, decide_eq_true_eq]; unfold two64; omega
  rw [show ev E (d + 1) 61 = fun args R H => (extV 1 args).map fun v => (v, R, H) from rfl]
  simp only [extV, h, cond_true, Option.map_some, cond_dec]
  have e1 : ((x : Int) - y - c) % two64 = (((18446744073709551616 + x - y - c) % 18446744073709551616 : Nat) : Int) := by
    show ((x : Int) - y - c) % 18446744073709551616 = _
    omega
  rw [e1]
  by_cases hb : x < y + c
  · rw [if_pos hb, if_pos (by omega)]; rfl
  · rw [if_neg hb, if_neg (by omega)]; rfl
theorem s_Len64 (hD : 1 ≤ D) (x : Nat) (hx : x < 18446744073709551616) : ev E D 64 [.one (.int .u64 (x : Int))] [] H = some (.one (.int .i64 ((if x = 0 then 0 else x.log2 + 1 : Nat) : Int)), [], H) := by
  obtain ⟨d, rfl⟩ : ∃ d, D = d + 1 := ⟨D - 1, by omega⟩
  have h : (decide (0 ≤ (x : Int)) && decide ((x : Int) < two64)) = true := by simp only [Bool.and_eq_true, decide_eq_true_eq]; unfold two64; omega
  rw [show ev E (d + 1) 64 = fun args R H => (extV 3 args).map fun v => (v, R, H) from rfl]
  simp only [extV, h, cond_true, Option.map_some]
  by_cases hb : x = 0
  · subst hb; rfl
  · rw [if_neg hb, show ((x : Int) == 0) = false from by simp; omega]; rfl

theorem s_WAdd (hD : 2 ≤ D) (a b c e : Nat) (ha : a < 18446744073709551616) (hb : b < 18446744073709551616) (hc : c < 18446744073709551616) (he : e < 18446744073709551616) : ev E D 50 [.agg [.int .u64 (a : Int), .int .u64 (b : Int)], .agg [.int .u64 (c : Int), .int .u64 (e : Int)]] [] H = some (.tup [.agg [.int .u64 (wh (wv a b + wv c e) : Int), .int .u64 (wl (wv a b + wv c e) : Int)], .one (.bool (decide (340282366920938463463374607431768211456 ≤ wv a b + wv c e)))], [], H) := by
  obtain ⟨d, rfl⟩ : ∃ d, D = d + 1 := ⟨D - 1, by omega⟩
  refine f50_le ?_
  have h1 := s_Add64 (D := d) (H := H) (by omega) b e 0 (by omega)
  rw [show ((0 : Nat) : Int) = 0 from rfl] at h1
  simp only [f50, h1, s_Add64 (show 1 ≤ d by omega) a c ((b + e + 0) / 18446744073709551616) (by omega), ob_some, rI_int, rB_bool, rC_one, rA_agg, rT_tup, tL_cons, tN_nil, cI_cons, cB_cons, cO_cons, cN_nil, bL_cons, bN_nil, optK_some, lenK_sl, lenK_nsl, List.take_length]
  have e1 : wh (wv a b + wv c e) = (a + c + (b + e + 0) / 18446744073709551616) % 18446744073709551616 := by unfold wh wv; omega
  have e2 : wl (wv a b + wv c e) = (b + e + 0) % 18446744073709551616 := by unfold wl wv; omega
  have e3 : decide (340282366920938463463374607431768211456 ≤ wv a b + wv c e) = ((((a + c + (b + e + 0) / 18446744073709551616) / 18446744073709551616 : Nat) : Int) == 1) := by
    apply Bool.eq_iff_iff.2
    simp only [beq_iff_eq, decide_eq_true_eq]
    unfold wv; omega
  rw [e1, e2, e3]
theorem s_WSub (hD : 2 ≤ D) (a b c e : Nat) (ha : a < 18446744073709551616) (hb : b < 18446744073709551616) (hc : c < 18446744073709551616) (he : e < 18446744073709551616) : ev E D 51 [.agg [.int .u64 (a : Int), .int .u64 (b : Int)], .agg [.int .u64 (c : Int), .int .u64 (e : Int)]] [] H = some (.tup [.agg [.int .u64 (wh (340282366920938463463374607431768211456 + wv a b - wv c e) : Int), .int .u64 (wl (340282366920938463463374607431768211456 + wv a b - wv c e) : Int)], .one (.bool (decide (wv a b < wv c e)))], [], H) := by
  obtain ⟨d, rfl⟩ : ∃ d, D = d + 1 := ⟨D - 1, by omega⟩
  refine f51_le ?_
  have h1 := s_Sub64 (D := d) (H := H) (by omega) b e 0 hb he (by omega)
  rw [show ((0 : Nat) : Int) = 0 from rfl] at h1
  simp only [f51, h1, s_Sub64 (show 1 ≤ d by omega) a c (if b < e + 0 then 1 else 0) ha hc (by split <;> omega), ob_some, rI_int, rB_bool, rC_one, rA_agg, rT_tup, tL_cons, tN_nil, cI_cons, cB_cons, cO_cons, cN_nil, bL_cons, bN_nil, optK_some, lenK_sl, lenK_nsl, List.take_length]
  have e1 : wh (340282366920938463463374607431768211456 + wv a b - wv c e) = (18446744073709551616 + a - c - (if b < e + 0 then 1 else 0)) % 18446744073709551616 := by unfold wh wv; split <;> omega
  have e2 : wl (340282366920938463463374607431768211456 + wv a b - wv c e) = (18446744073709551616 + b - e - 0) % 18446744073709551616 := by unfold wl wv; omega
  have e3 : decide (wv a b < wv c e) = (((if a < c + (if b < e + 0 then 1 else 0) then 1 else 0 : Nat) : Int) == 1) := by
    apply Bool.eq_iff_iff.2
    simp only [beq_iff_eq, decide_eq_true_eq]
    unfold wv; split <;> split <;> omega
  rw [e1, e2, e3]

theorem s_WLen (hD : 2 ≤ D) (hi lo : Nat) (h : hi < 18446744073709551616) (hl : lo < 18446744073709551616) : ev E D 57 [.agg [.int .u64 (hi : Int), .int .u64 (lo : Int)]] [] H = some (.one (.int .i64 (wlen (wv hi lo) : Int)), [], H) := by
  obtain ⟨d, rfl⟩ : ∃ d, D = d + 1 := ⟨D - 1, by omega⟩
  refine f57_le ?_
  simp only [f57, s_Len64 (show 1 ≤ d by omega) hi h, s_Len64 (show 1 ≤ d by omega) lo hl, ob_some, rI_int, rB_bool, rC_one, rA_agg, rT_tup, tL_cons, tN_nil, cI_cons, cB_cons, cO_cons, cN_nil, bL_cons, bN_nil, optK_some, lenK_sl, lenK_nsl, List.take_length]
  by_cases hz : hi = 0
  · subst hz
    rw [show (((0 : Nat) : Int) != 0) = false from rfl, cond_false]
    rw [show wv 0 lo = lo from by unfold wv; omega]; rfl
  · rw [show ((hi : Int) != 0) = true from by simp; omega, cond_true]
    have hlog : hi.log2 < 64 := (Nat.log2_lt hz).2 h
    rw [if_neg hz, wrap_i64 _ (by omega) (by omega), wlen_hi hi lo hz hl]
    congr 4
    omega
end Go.Ev.Try
end

section
set_option linter.all false
/- What rounding comes to. -/
namespace Go.Ev.Try
open Go.Ev
variable {D : Nat} {H : Heap}

theorem s_split (hD : 3 ≤ D) (hi lo n : Nat) (fell : Bool) (h : hi < 18446744073709551616) (hl : lo < 18446744073709551616) (hn : n < 1000000) (h0 : 0 < n) (hz : wv hi lo ≠ 0) (hf : 128 < n → fell = true) :
    ev E D 58 [.agg [.int .u64 (hi : Int), .int .u64 (lo : Int)], .one (.int .i64 (n : Int)), .one (.bool fell)] [] H = some (.tup [.one (.bool (rHalf (wv hi lo) n)), .one (.bool (rFell (wv hi lo) n))], [], H) := by
  obtain ⟨d, rfl⟩ : ∃ d, D = d + 1 := ⟨D - 1, by omega⟩
  refine f58_le ?_
  have hW := wv_lt hi lo h hl
  generalize hWe : wv hi lo = W at hz hW ⊢
  by_cases h1 : 128 < n
  · have e1 : W < 2 ^ (n - 1) := Nat.lt_of_lt_of_le hW (Nat.le_trans (show 340282366920938463463374607431768211456 ≤ 2 ^ 128 by decide) (Nat.pow_le_pow_right (by decide) (by omega)))
    rw [show rHalf W n = false from by unfold rHalf; rw [Nat.div_eq_of_lt e1]; rfl, show rFell W n = true from by unfold rFell; rw [Nat.mod_eq_of_lt e1, decide_eq_true hz]]
    simp only [f58, decide_eq_true (show (n : Int) > 128 from Int.ofNat_lt.2 h1), cond_true, hf h1]
  · have hR := s_Right (D := d) (H := H) (by omega) hi lo (n - 1) h hl (by omega)
    rw [show ((n - 1 : Nat) : Int) = (n : Int) - 1 from by omega, hWe] at hR
    have h2 := and_u64 (wl (W / 2 ^ (n - 1))) 1 (wl_lt _) (by decide)
    have h3 : (wl (W / 2 ^ (n - 1))) &&& 1 = W / 2 ^ (n - 1) % 2 := by
      rw [show wl (W / 2 ^ (n - 1)) &&& 1 = wl (W / 2 ^ (n - 1)) % 2 from Nat.and_two_pow_sub_one_eq_mod _ 1]
      unfold wl; generalize W / 2 ^ (n - 1) = z; omega
    rw [show ((1 : Nat) : Int) = 1 from rfl, h3] at h2
    have h4 : ((W / 2 ^ (n - 1) % 2 : Nat) == (1 : Int)) = rHalf W n := by
      unfold rHalf
      apply Bool.eq_iff_iff.2; simp only [beq_iff_eq, decide_eq_true_eq]; generalize W / 2 ^ (n - 1) = z; omega
    simp only [f58, decide_eq_false (show ¬ ((n : Int) > 128) from fun h => h1 (Int.ofNat_lt.1 h)), cond_false, wrap_i64 ((n : Int) - 1) (by omega) (by omega), hR, h2, h4, ob_some, rI_int, rB_bool, rC_one, rA_agg, rT_tup, tL_cons, tN_nil, cI_cons, cB_cons, cO_cons, cN_nil, bL_cons, bN_nil, optK_some, lenK_sl, lenK_nsl, List.take_length]
    rfl

theorem j_End {α : Type} (hD : 1 ≤ D) (neg : Bool) (x : Int) (m f : Nat) (hx : -1074 ≤ x) (hx1 : x < 1000000) (hm : m < 9007199254740992) (hf : f < 256) (N n0 : Nat) (K : Int → Int → Heap → Option α) :
    f46_j4 (ev E D) N n0 K neg x (m : Int) (f : Int) H = K ((rEnd neg x m f).1 : Int) ((rEnd neg x m f).2 : Int) H := by
  have m0 := s_Make (D := D) (H := H) hD neg 0 m (by decide) (by omega)
  have m1 := s_Make (D := D) (H := H) hD neg 2047 0 (by decide) (by decide)
  have m2 := s_Make (D := D) (H := H) hD neg (x + 1075).toNat m
  rw [show ((0 : Nat) : Int) = 0 from rfl] at m0 m1
  rw [show ((2047 : Nat) : Int) = 2047 from rfl, show bFrac 0 = 0 from rfl] at m1
  have o1 := or_u8 f 4 (by omega) (by decide)
  have o2 := or_u8 (f ||| 4) 1 (Nat.or_lt_two_pow (n := 8) (by omega) (by decide)) (by decide)
  rw [show ((4 : Nat) : Int) = 4 from rfl] at o1
  rw [show ((1 : Nat) : Int) = 1 from rfl] at o2
  unfold rEnd
  simp only [f46_j4, cond_dec, wrap_i64 (x + 1075) (by omega) (by omega), o1, o2, m0, m1, ob_some, rI_int, rB_bool, rC_one, rA_agg, rT_tup, tL_cons, tN_nil, cI_cons, cB_cons, cO_cons, cN_nil, bL_cons, bN_nil, optK_some, lenK_sl, lenK_nsl, List.take_length]
  by_cases h1 : m < 4503599627370496
  · rw [if_pos (by omega), if_pos h1, show bFrac m = m from Nat.mod_eq_of_lt h1]
  · rw [if_neg (by omega), if_neg h1]
    by_cases h2 : x + 1075 ≥ 2047
    · rw [if_pos h2, if_pos h2]
    · rw [if_neg h2, if_neg h2]
      have m2 := m2 (by omega) (by omega)
      rw [show (((x + 1075).toNat : Nat) : Int) = x + 1075 from by omega] at m2
      simp only [m2, ob_some, rI_int, rB_bool, rC_one, rA_agg, rT_tup, tL_cons, tN_nil, cI_cons, cB_cons, cO_cons, cN_nil, bL_cons, bN_nil, optK_some, lenK_sl, lenK_nsl, List.take_length]

theorem j_Mid {α : Type} (hD : 1 ≤ D) (neg : Bool) (e drop : Int) (m y : Nat) (lost tiny : Bool) (he : -200000 ≤ e ∧ e ≤ 200000) (hd : -200000 ≤ drop ∧ drop ≤ 200000) (hx : -1074 ≤ e + drop) (hm : m ≤ 9007199254740992) (N n0 : Nat) (K : Int → Int → Heap → Option α) :
    f46_j2 (ev E D) N n0 K neg e drop tiny lost (y : Int) (m : Int) H = K ((rMid neg (e + drop) m lost tiny).1 : Int) ((rMid neg (e + drop) m lost tiny).2 : Int) H := by
  have sh : shrI .u64 (m : Int) 1 = ((m / 2 : Nat) : Int) := shr_nat .u64 m 1 (by decide)
  have k4 := fun (x : Int) (m f : Nat) hx hx1 hm hf => j_End (α := α) (D := D) (H := H) hD neg x m f hx hx1 hm hf N n0 K
  have key : ∀ (x : Int) (z : Nat), -1074 ≤ x → x < 1000000 → z < 9007199254740992 → f46_j3 (ev E D) N n0 K neg x tiny lost (z : Int) H = K ((rEnd neg x z (rFl lost tiny)).1 : Int) ((rEnd neg x z (rFl lost tiny)).2 : Int) H := by
    intro x z h1 h2 h3
    have r0 := k4 x z 0 h1 h2 h3 (by decide)
    have r1 := k4 x z 1 h1 h2 h3 (by decide)
    have r3 := k4 x z 3 h1 h2 h3 (by decide)
    rw [show ((0 : Nat) : Int) = 0 from rfl] at r0
    rw [show ((1 : Nat) : Int) = 1 from rfl] at r1
    rw [show ((3 : Nat) : Int) = 3 from rfl] at r3
    unfold f46_j3
    cases lost
    · rw [cond_false, show rFl false tiny = 0 from rfl]; exact r0
    · cases tiny
      · rw [cond_true, cond_false, show rFl true false = 1 from rfl]; exact r1
      · rw [cond_true, cond_true, show rFl true true = 3 from rfl]; exact r3
  unfold f46_j2 rMid
  simp only [wrap_i64 (e + drop) (by omega) (by omega), wrap_i64 (e + drop + 1) (by omega) (by omega), sh]
  by_cases h1 : m = 9007199254740992
  · subst h1
    rw [if_pos rfl, show (((9007199254740992 : Nat) : Int) == 9007199254740992) = true from rfl, cond_true]
    exact key _ _ (by omega) (by omega) (by decide)
  · rw [if_neg h1, show ((m : Int) == 9007199254740992) = false from by apply Bool.eq_false_iff.2; simp only [ne_eq, beq_iff_eq]; omega, cond_false]
    exact key _ _ (by omega) (by omega) (by omega)

theorem wlen_lt (W : Nat) (h : W < 340282366920938463463374607431768211456) : wlen W ≤ 128 := wlen_le W 128 h

theorem j_Round {α : Type} (hD : 3 ≤ D) (neg : Bool) (e drop : Int) (hi lo : Nat) (more tiny : Bool) (h : hi < 18446744073709551616) (hl : lo < 18446744073709551616) (hz : wv hi lo ≠ 0) (he : -100000 ≤ e ∧ e ≤ 100000) (hd : -200000 ≤ drop ∧ drop ≤ 200000) (hx : -1074 ≤ e + drop) (hx2 : (wlen (wv hi lo) : Int) - 53 ≤ drop) (N n0 : Nat) (K : Int → Int → Heap → Option α) :
    f46_j0 (ev E D) N n0 K neg e more drop tiny (hi : Int) (lo : Int) H =
      let r := if drop > 0 then rMid neg (e + drop) (rUp (wv hi lo) drop.toNat more) (rHalf (wv hi lo) drop.toNat || rFell (wv hi lo) drop.toNat || more) tiny
        else rMid neg (e + drop) (wv hi lo * 2 ^ (-drop).toNat) more tiny
      K (r.1 : Int) (r.2 : Int) H := by
  have hW := wv_lt hi lo h hl
  have k2 := fun (m y : Nat) (lost tiny : Bool) hm => j_Mid (α := α) (D := D) (H := H) (by omega) neg e drop m y lost tiny (by omega) (by omega) hx hm N n0 K
  by_cases h1 : drop > 0
  · rw [if_pos h1]
    obtain ⟨n, rfl⟩ : ∃ n : Nat, drop = n := ⟨drop.toNat, by omega⟩
    rw [Int.toNat_natCast]
    have hn0 : 0 < n := by omega
    have hR := s_Right (D := D) (H := H) (by omega) hi lo n h hl (by omega)
    have hs := s_split (D := D) (H := H) hD hi lo n (decide (wv hi lo % 2 ^ n ≠ 0)) h hl (by omega) hn0 hz (by
      intro hb
      rw [Nat.mod_eq_of_lt (Nat.lt_of_lt_of_le hW (Nat.le_trans (show 340282366920938463463374607431768211456 ≤ 2 ^ 128 by decide) (Nat.pow_le_pow_right (by decide) (Nat.le_of_lt hb)))), decide_eq_true hz])
    have hst := stay_lt (wv hi lo) n (by omega) hz
    have hA := s_WAdd (D := D) (H := H) (by omega) (wh (wv hi lo / 2 ^ n)) (wl (wv hi lo / 2 ^ n)) 0 1 (wh_lt _) (wl_lt _) (by decide) (by decide)
    rw [wv_wh_wl _ (by omega), show wv 0 1 = 1 from rfl] at hA
    rw [show ((0 : Nat) : Int) = 0 from rfl, show ((1 : Nat) : Int) = 1 from rfl] at hA
    have h2 := and_u64 (wl (wv hi lo / 2 ^ n)) 1 (wl_lt _) (by decide)
    have h3 : (wl (wv hi lo / 2 ^ n)) &&& 1 = wv hi lo / 2 ^ n % 2 := by
      rw [show wl (wv hi lo / 2 ^ n) &&& 1 = wl (wv hi lo / 2 ^ n) % 2 from Nat.and_two_pow_sub_one_eq_mod _ 1]
      unfold wl; generalize wv hi lo / 2 ^ n = z; omega
    rw [show ((1 : Nat) : Int) = 1 from rfl, h3] at h2
    have h4 : ((wv hi lo / 2 ^ n % 2 : Nat) == (1 : Int)) = decide (wv hi lo / 2 ^ n % 2 = 1) := by
      apply Bool.eq_iff_iff.2; simp only [beq_iff_eq, decide_eq_true_eq]; generalize wv hi lo / 2 ^ n = z; omega
    have l1 : wl (wv hi lo / 2 ^ n + 1) = wv hi lo / 2 ^ n + 1 := Nat.mod_eq_of_lt (by omega)
    have l0 : wl (wv hi lo / 2 ^ n) = wv hi lo / 2 ^ n := Nat.mod_eq_of_lt (by omega)
    rw [l0] at h2 hA
    have c1 := fun y lost tiny => k2 (wv hi lo / 2 ^ n + 1) y lost tiny (by omega)
    have c0 := fun y lost tiny => k2 (wv hi lo / 2 ^ n) y lost tiny (by omega)
    simp only [f46_j0, f46_j1, decide_eq_true h1, c_t, hR, hs, hA, h2, h4, l0, l1, ob_some, rI_int, rB_bool, rC_one, rA_agg, rT_tup, tL_cons, tN_nil, cI_cons, cB_cons, cO_cons, cN_nil, bL_cons, bN_nil, optK_some, lenK_sl, lenK_nsl, List.take_length]
    unfold rUp
    cases rHalf (wv hi lo) n <;> cases rFell (wv hi lo) n <;> cases more <;> cases decide (wv hi lo / 2 ^ n % 2 = 1) <;> simp only [c_t, c_f, b_nt, b_nf, b_fo, b_to, b_fa, b_ta, c0, c1, if_true, if_false, Bool.false_eq_true, Bool.and_self]
  · rw [if_neg h1]
    obtain ⟨n, rfl⟩ : ∃ n : Nat, drop = -(n : Int) := ⟨(-drop).toNat, by omega⟩
    rw [show (- -(n : Int)).toNat = n from by omega]
    have hst := stay_lt' (wv hi lo) n (by omega) hz
    have l0 : wl (wv hi lo * 2 ^ n) = wv hi lo * 2 ^ n := Nat.mod_eq_of_lt (by omega)
    have hL := s_Left (D := D) (H := H) (by omega) hi lo n h hl (by omega)
    have c0 := fun y lost tiny => k2 (wv hi lo * 2 ^ n) y lost tiny (by omega)
    rw [show f46_j0 (ev E D) N n0 K neg e more (-(n : Int)) tiny (hi : Int) (lo : Int) H = _ from by unfold f46_j0; rfl]
    simp only [decide_eq_false h1, c_f, wrap_i64 (n : Int) (by omega) (by omega), show (0 : Int) - -(n : Int) = n from by omega]
    by_cases h0 : n = 0
    · subst h0
      simp only [Nat.pow_zero, Nat.mul_one] at l0 c0 hst ⊢
      have hh : (hi : Int) = ((wh (wv hi lo) : Nat) : Int) := by rw [wh_wv hi lo h hl]
      have hlo : lo = wv hi lo := by rw [← l0, wl_wv hi lo hl]; 
      rw [← hlo] at c0
      simp only [decide_eq_false (show ¬ (-((0 : Nat) : Int) < 0) by decide), c_f]
      rw [show (wv hi lo) = lo from hlo.symm]
      cases more <;> simp only [c_t, c_f, b_nt, b_nf, c0]
    · simp only [decide_eq_true (show (-(n : Int) < 0) by omega), c_t, hL, l0, ob_some, rI_int, rB_bool, rC_one, rA_agg, rT_tup, tL_cons, tN_nil, cI_cons, cB_cons, cO_cons, cN_nil, bL_cons, bN_nil, optK_some, lenK_sl, lenK_nsl, List.take_length]
      cases more <;> simp only [c_t, c_f, b_nt, b_nf, c0]

theorem s_Round (hD : 4 ≤ D) (neg : Bool) (hi lo : Nat) (exp : Int) (more : Bool) (h : hi < 18446744073709551616) (hl : lo < 18446744073709551616) :
    ev E D 46 [.one (.bool neg), .agg [.int .u64 (hi : Int), .int .u64 (lo : Int)], .one (.int .i64 exp), .one (.bool more)] [] H = some (.tup [.one (.int .u64 ((roundN neg (wv hi lo) exp more).1 : Int)), .one (.int .u8 ((roundN neg (wv hi lo) exp more).2 : Int))], [], H) := by
  obtain ⟨d, rfl⟩ : ∃ d, D = d + 1 := ⟨D - 1, by omega⟩
  refine f46_le ?_
  have hW := wv_lt hi lo h hl
  have hlen := wlen_lt _ hW
  have he := clampE_le exp
  have m0 := s_Make (D := d) (H := H) (by omega) neg 0 0 (by decide) (by decide)
  rw [show ((0 : Nat) : Int) = 0 from rfl, show bFrac 0 = 0 from rfl] at m0
  have key := fun drop tiny hz hd hx hx2 => j_Round (α := Res) (D := d) (H := H) (by omega) neg (clampE exp) drop hi lo more tiny h hl hz he hd hx hx2 E.N (List.length H) (fun x y h => some (.tup [.one (.int .u64 x), .one (.int .u8 y)], [], h))
  have hdr : -200000 ≤ rDrop (wv hi lo) (clampE exp) ∧ rDrop (wv hi lo) (clampE exp) ≤ 200000 := by unfold rDrop; split <;> omega
  have hdg := rDrop_ge (wv hi lo) (clampE exp)
  simp only [f46, show maxN (-100000) (minN exp 100000) = clampE exp from rfl, s_Zero (show 1 ≤ d by omega) hi lo h hl, m0, s_WLen (show 2 ≤ d by omega) hi lo h hl, ob_some, rI_int, rB_bool, rC_one, rA_agg, rT_tup, tL_cons, tN_nil, cI_cons, cB_cons, cO_cons, cN_nil, bL_cons, bN_nil, optK_some, lenK_sl, lenK_nsl, List.take_length,
    wrap_i64 ((wlen (wv hi lo) : Int) - 53) (by omega) (by omega), wrap_i64 (clampE exp + (wlen (wv hi lo) : Int)) (by omega) (by omega), wrap_i64 (clampE exp + ((wlen (wv hi lo) : Int) - 53)) (by omega) (by omega), wrap_i64 (-1074 - clampE exp) (by omega) (by omega)]
  unfold roundN
  by_cases hz : wv hi lo = 0
  · rw [decide_eq_true hz, if_pos hz]
    cases more <;> simp only [c_t, c_f, b_nt, b_nf, if_true, if_false, Bool.false_eq_true] <;> rfl
  · rw [decide_eq_false hz, if_neg hz]
    have k := key (rDrop (wv hi lo) (clampE exp)) (decide (clampE exp + (wlen (wv hi lo) : Int) < -1021)) hz hdr hdg.1 hdg.2
    simp only [c_f]
    simp only at k ⊢
    by_cases hb : clampE exp + ((wlen (wv hi lo) : Int) - 53) < -1074
    · have e1 : rDrop (wv hi lo) (clampE exp) = -1074 - clampE exp := if_pos hb
      rw [decide_eq_true hb, c_t]; rw [e1] at k ⊢; rw [k]
    · have e1 : rDrop (wv hi lo) (clampE exp) = (wlen (wv hi lo) : Int) - 53 := if_neg hb
      rw [decide_eq_false hb, c_f]; rw [e1] at k ⊢; rw [k]
end Go.Ev.Try
end

section
set_option linter.all false
/- What sums and scalings come to. -/
namespace Go.Ev.Try
open Go.Ev
variable {D : Nat} {H : Heap}

theorem s_Scale (hD : 5 ≤ D) (a : Nat) (n : Int) (ha : a < 18446744073709551616) :
    ev E D 41 [.one (.int .u64 (a : Int)), .one (.int .i64 n)] [] H = some (.tup [.one (.int .u64 ((scaleN a n).1 : Int)), .one (.int .u8 ((scaleN a n).2 : Int))], [], H) := by
  obtain ⟨d, rfl⟩ : ∃ d, D = d + 1 := ⟨D - 1, by omega⟩
  refine f41_le ?_
  have hm := bMan_lt a
  have hp := bPow_le a
  have hc := clampS_le n
  have hR := s_Round (D := d) (H := H) (by omega) (bNeg a) 0 (bMan a) (bPow a + clampS n) false (by decide) (by omega)
  rw [show wv 0 (bMan a) = bMan a from by unfold wv; omega] at hR
  rw [show ((0 : Nat) : Int) = 0 from rfl] at hR
  simp only [f41, show maxN (-10000) (minN n 10000) = clampS n from rfl, s_Kind (show 2 ≤ d by omega) a ha, s_Signals (show 3 ≤ d by omega) a ha, s_Parts (show 3 ≤ d by omega) a ha, s_Neg (show 1 ≤ d by omega) a ha, ob_some, rI_int, rB_bool, rC_one, rA_agg, rT_tup, tL_cons, tN_nil, cI_cons, cB_cons, cO_cons, cN_nil, bL_cons, bN_nil, optK_some, lenK_sl, lenK_nsl, List.take_length, wrap_i64 (bPow a + clampS n) (by omega) (by omega), hR]
  unfold scaleN
  simp only [kd5, kd4, kd1]
  by_cases h5 : bKind a = 5
  · unfold bSig
    simp only [h5, decide_true, b_ta, c_t, if_true]
    cases decide (a / 2251799813685248 % 2 = 0) <;> rfl
  · simp only [h5, decide_false, c_f, if_false]
    by_cases h4 : bKind a = 4
    · simp only [h4, decide_true, c_t, if_true]; rfl
    · simp only [h4, decide_false, c_f, if_false]
      by_cases h1 : bKind a = 1
      · simp only [h1, decide_true, c_t, if_true]; rfl
      · simp only [h1, decide_false, c_f, if_false]

theorem s_nan (hD : 4 ≤ D) (a b : Nat) (ha : a < 18446744073709551616) (hb : b < 18446744073709551616) :
    ev E D 44 [.one (.sl (List.length H) 0 2 1)] [] (H ++ [Blk.mem 2 [.int .u64 (a : Int), .int .u64 (b : Int)]]) = some (.tup [.one (.int .u64 9221120237041090560), .one (.int .u8 ((if bSig a || bSig b then 16 else 0 : Nat) : Int)), .one (.bool (decide (bKind a = 5 ∨ bKind b = 5)))], [], H ++ [Blk.mem 2 [.int .u64 (a : Int), .int .u64 (b : Int)]]) := by
  obtain ⟨d, rfl⟩ : ∃ d, D = d + 1 := ⟨D - 1, by omega⟩
  refine f44_le ?_
  have hmem := memAt_end H 2 [.int .u64 (a : Int), .int .u64 (b : Int)]
  obtain ⟨N, hN⟩ : ∃ N, E.N = N + 3 := ⟨E.N - 3, by decide⟩
  have e0 := eltK_sl (α := Res) (List.length H) 0 2 1 0 (by decide)
  have e1 := eltK_sl (α := Res) (List.length H) 0 2 1 1 (by decide)
  rw [show ((0 : Nat) : Int) = 0 from rfl] at e0
  rw [show ((1 : Nat) : Int) = 1 from rfl] at e1
  rw [hN]
  simp only [f44, f44_l0, ob_some, rI_int, rB_bool, rC_one, rA_agg, rT_tup, tL_cons, tN_nil, cI_cons, cB_cons, cO_cons, cN_nil, bL_cons, bN_nil, optK_some, lenK_sl, lenK_nsl, List.take_length, show (((2 : Nat) : Int)) = 2 from rfl, decide_eq_true (show (0 : Int) < 2 by decide), decide_eq_true (show (1 : Int) < 2 by decide), decide_eq_false (show ¬ ((2 : Int) < 2) by decide), c_t, c_f, e0, e1, rdE, hmem,
    show List.take 1 (List.drop (0 + 0 * 1) [C.int .u64 (a : Int), .int .u64 (b : Int)]) = [.int .u64 (a : Int)] from rfl, show List.take 1 (List.drop (0 + 1 * 1) [C.int .u64 (a : Int), .int .u64 (b : Int)]) = [.int .u64 (b : Int)] from rfl,
    s_Kind (show 2 ≤ d by omega) a ha, s_Signals (show 3 ≤ d by omega) a ha, s_Kind (show 2 ≤ d by omega) b hb, s_Signals (show 3 ≤ d by omega) b hb, kd5, show IntKind.wrap .i64 (0 + 1) = 1 from rfl, show IntKind.wrap .i64 (1 + 1) = 2 from rfl]
  unfold bSig
  by_cases h1 : bKind a = 5 <;> by_cases h2 : bKind b = 5 <;> simp only [h1, h2, decide_true, decide_false, b_ta, b_fa, c_t, c_f, or_self, or_true, true_or, or_false, false_or, Bool.or_false, Bool.false_or] <;> (try cases decide (a / 2251799813685248 % 2 = 0)) <;> (try cases decide (b / 2251799813685248 % 2 = 0)) <;> rfl

theorem j_addC {α : Type} (hD : 4 ≤ D) (a b : Nat) (ha : a < 18446744073709551616) (hb : b < 18446744073709551616) (hka : bKind a = 2 ∨ bKind a = 3) (hkb : bKind b = 2 ∨ bKind b = 3) (hab : bAbs b ≤ bAbs a) (N n0 : Nat) (K : Int → Int → Heap → Option α) :
    f35_j1 (ev E D) N n0 K (a : Int) (b : Int) H = K ((addC a b).1 : Int) ((addC a b).2 : Int) H := by
  have hma := bMan_lt a
  have hmb := bMan_lt b
  have hpa := bPow_le a
  have hpb := bPow_le b
  have hpp := bPow_mono a b hka hkb (bExp_mono a b hab)
  have L1 := s_Left (D := D) (H := H) (by omega) 0 (bMan a) 64 (by decide) (by omega) (by decide)
  have L2 := s_Left (D := D) (H := H) (by omega) 0 (bMan b) 64 (by decide) (by omega) (by decide)
  rw [wv_left64] at L1 L2
  rw [show ((0 : Nat) : Int) = 0 from rfl, show ((64 : Nat) : Int) = 64 from rfl] at L1 L2
  obtain ⟨k, hk⟩ : ∃ k : Nat, bPow a - bPow b = k := ⟨(bPow a - bPow b).toNat, by omega⟩
  have R := s_Right (D := D) (H := H) (by omega) (wh (bMan b * 18446744073709551616)) (wl (bMan b * 18446744073709551616)) k (wh_lt _) (wl_lt _) (by omega)
  rw [wv_wh_wl _ (by omega)] at R
  have hQ : bMan b * 18446744073709551616 / 2 ^ k ≤ bMan b * 18446744073709551616 := Nat.div_le_self _ _
  unfold addC
  rw [hk, Int.toNat_natCast]
  obtain ⟨P, hP⟩ : ∃ P, P = bMan a * 18446744073709551616 := ⟨_, rfl⟩
  obtain ⟨NN, hNN⟩ : ∃ P, P = bMan b * 18446744073709551616 := ⟨_, rfl⟩
  rw [← hP] at L1 ⊢
  rw [← hNN] at L2 R hQ ⊢
  obtain ⟨Q, hQe⟩ : ∃ Q, Q = NN / 2 ^ k := ⟨_, rfl⟩
  rw [← hQe] at R hQ ⊢
  have A1 := s_WAdd (D := D) (H := H) (by omega) (wh P) (wl P) (wh Q) (wl Q) (wh_lt _) (wl_lt _) (wh_lt _) (wl_lt _)
  rw [wv_wh_wl P (by omega), wv_wh_wl Q (by omega)] at A1
  have A2 := s_WAdd (D := D) (H := H) (by omega) (wh Q) (wl Q) 0 1 (wh_lt _) (wl_lt _) (by decide) (by decide)
  rw [wv_wh_wl Q (by omega), show wv 0 1 = 1 from rfl] at A2
  rw [show ((0 : Nat) : Int) = 0 from rfl, show ((1 : Nat) : Int) = 1 from rfl] at A2
  have S := fun Q hQ => s_WSub (D := D) (H := H) (by omega) (wh P) (wl P) (wh Q) (wl Q) (wh_lt _) (wl_lt _) (wh_lt _) (wl_lt _)
  have R1 := fun X more => s_Round (D := D) (H := H) (by omega) (bNeg a) (wh X) (wl X) (bPow a - 64) more (wh_lt _) (wl_lt _)
  have R1' : ∀ X more, X < 340282366920938463463374607431768211456 → _ := fun X more (hX : X < 340282366920938463463374607431768211456) => by
    have r := R1 X more
    rw [wv_wh_wl X hX] at r
    exact r
  have j3 : ∀ (X : Nat) (low : Bool), f35_j3 (ev E D) N n0 K (a : Int) (bPow a) low (wh X : Int) (wl X : Int) H = K ((roundN (bNeg a) (wv (wh X) (wl X)) (bPow a - 64) low).1 : Int) ((roundN (bNeg a) (wv (wh X) (wl X)) (bPow a - 64) low).2 : Int) H := by
    intro X low
    simp only [f35_j3, s_Neg (show 1 ≤ D by omega) a ha, ob_some, rI_int, rB_bool, rC_one, rA_agg, rT_tup, tL_cons, tN_nil, cI_cons, cB_cons, cO_cons, cN_nil, bL_cons, bN_nil, optK_some, lenK_sl, lenK_nsl, List.take_length, wrap_i64 (bPow a - 64) (by omega) (by omega), R1 X low]
  have j2 : ∀ (Q : Nat) (low : Bool), Q < 340282366920938463463374607431768211456 → f35_j2 (ev E D) N n0 K (a : Int) (bPow a) low (wh P : Int) (wl P : Int) (wh Q : Int) (wl Q : Int) H =
      K ((addS (bNeg a) (bPow a) P Q low).1 : Int) ((addS (bNeg a) (bPow a) P Q low).2 : Int) H := by
    intro Q low hQ
    unfold addS
    have S := s_WSub (D := D) (H := H) (by omega) (wh P) (wl P) (wh Q) (wl Q) (wh_lt _) (wl_lt _) (wh_lt _) (wl_lt _)
    rw [wv_wh_wl P (by omega), wv_wh_wl Q hQ] at S
    generalize hX : 340282366920938463463374607431768211456 + P - Q = X at *
    have hw : wv (wh X) (wl X) = X % 340282366920938463463374607431768211456 := by unfold wv wh wl; omega
    simp only [f35_j2, S, s_Zero (show 1 ≤ D by omega) (wh X) (wl X) (wh_lt _) (wl_lt _), j3, ob_some, rI_int, rB_bool, rC_one, rA_agg, rT_tup, tL_cons, tN_nil, cI_cons, cB_cons, cO_cons, cN_nil, bL_cons, bN_nil, optK_some, lenK_sl, lenK_nsl, List.take_length, hw]
    by_cases hz : X % 340282366920938463463374607431768211456 = 0
    · simp only [hz, decide_true, c_t, true_and]
      cases low <;> simp only [c_t, c_f, b_nt, b_nf, if_true, if_false, Bool.true_eq_false] <;> rfl
    · simp only [hz, decide_false, c_f, false_and, if_false]
  simp only [f35_j1, s_Parts (show 3 ≤ D by omega) a ha, s_Parts (show 3 ≤ D by omega) b hb, ob_some, rI_int, rB_bool, rC_one, rA_agg, rT_tup, tL_cons, tN_nil, cI_cons, cB_cons, cO_cons, cN_nil, bL_cons, bN_nil, optK_some, lenK_sl, lenK_nsl, List.take_length, L1, L2, hk, wrap_i64 (k : Int) (by omega) (by omega), R, s_Neg (show 1 ≤ D by omega) a ha, s_Neg (show 1 ≤ D by omega) b hb, A1, A2,
    wrap_i64 (bPow a - 64) (by omega) (by omega), R1' (P + Q) _ (by omega), j2 Q _ (by omega), j2 (Q + 1) _ (by omega)]
  unfold addD
  cases bNeg a == bNeg b <;> cases decide (NN % 2 ^ k ≠ 0) <;> simp only [c_t, c_f, if_true, if_false, Bool.false_eq_true]

theorem s_Add (hD : 5 ≤ D) (a b : Nat) (ha : a < 18446744073709551616) (hb : b < 18446744073709551616) :
    ev E D 35 [.one (.int .u64 (a : Int)), .one (.int .u64 (b : Int))] [] H = some (.tup [.one (.int .u64 ((addN a b).1 : Int)), .one (.int .u8 ((addN a b).2 : Int))], [], H ++ [Blk.mem 2 [.int .u64 (a : Int), .int .u64 (b : Int)]]) := by
  obtain ⟨d, rfl⟩ : ∃ d, D = d + 1 := ⟨D - 1, by omega⟩
  refine f35_le ?_
  have hn := s_nan (D := d) (H := H) (by omega) a b ha hb
  have hka := kind_le a
  have hkb := kind_le b
  obtain ⟨H1, hH1⟩ : ∃ H1, H1 = H ++ [Blk.mem 2 [.int .u64 (a : Int), .int .u64 (b : Int)]] := ⟨_, rfl⟩
  rw [← hH1] at hn ⊢
  have hand := and_u64 a b ha hb
  have hne : ((a : Int) != (b : Int)) = decide (a ≠ b) := by apply Bool.eq_iff_iff.2; simp only [bne_iff_ne, decide_eq_true_eq, ne_eq]; omega
  simp only [f35, ← hH1, hn, ob_some, rI_int, rB_bool, rC_one, rA_agg, rT_tup, tL_cons, tN_nil, cI_cons, cB_cons, cO_cons, cN_nil, bL_cons, bN_nil, optK_some, lenK_sl, lenK_nsl, List.take_length, s_Kind (show 2 ≤ d by omega) a ha, s_Kind (show 2 ≤ d by omega) b hb, kd4, kd1, hne, hand]
  unfold addN
  by_cases h5 : bKind a = 5 ∨ bKind b = 5
  · rw [decide_eq_true h5, if_pos h5, c_t]; rfl
  rw [decide_eq_false h5, if_neg h5, c_f]
  have a5 : bKind a ≠ 5 := fun h => h5 (.inl h)
  have b5 : bKind b ≠ 5 := fun h => h5 (.inr h)
  have j0 : bKind a ≠ 4 → bKind b ≠ 4 → bKind a ≠ 1 → bKind b ≠ 1 → f35_j0 (ev E d) E.N (List.length H) (fun x y h => some (.tup [.one (.int .u64 x), .one (.int .u8 y)], [], h)) (a : Int) (b : Int) H1 =
      (some (.tup [.one (.int .u64 ((if bAbs a < bAbs b then addC b a else addC a b).1 : Int)), .one (.int .u8 ((if bAbs a < bAbs b then addC b a else addC a b).2 : Int))], [], H1) : Option Res) := by
    intro h1 h2 h3 h4
    simp only [f35_j0, s_Abs (show 1 ≤ d by omega) a ha, s_Abs (show 1 ≤ d by omega) b hb, ob_some, rI_int, rB_bool, rC_one, rA_agg, rT_tup, tL_cons, tN_nil, cI_cons, cB_cons, cO_cons, cN_nil, bL_cons, bN_nil, optK_some, lenK_sl, lenK_nsl, List.take_length]
    by_cases h : bAbs a < bAbs b
    · rw [decide_eq_true (show (bAbs a : Int) < bAbs b by omega), c_t, if_pos h, j_addC (by omega) b a hb ha (by omega) (by omega) (by omega)]
    · rw [decide_eq_false (show ¬ ((bAbs a : Int) < bAbs b) by omega), c_f, if_neg h, j_addC (by omega) a b ha hb (by omega) (by omega) (by omega)]
  by_cases a4 : bKind a = 4 <;> by_cases b4 : bKind b = 4 <;> by_cases a1 : bKind a = 1 <;> by_cases b1 : bKind b = 1 <;> (try omega) <;> simp only [a4, b4, a1, b1, decide_true, decide_false, c_t, c_f, if_true, if_false, true_and, false_and, and_true, and_false, show ∀ k : Nat, (4 = k + 5) = False from fun k => by simp, show (4 = 1) = False from by simp, show (1 = 4) = False from by simp]
  all_goals first
    | exact j0 a4 b4 a1 b1
    | rfl
    | (by_cases hab : a = b <;> simp only [hab, ne_eq, not_true, not_false_eq_true, decide_true, decide_false, c_t, c_f, if_true, if_false] <;> rfl)

theorem s_note (hD : 1 ≤ D) (f b g : Nat) (hf : f < 256) (hg : g < 256) :
    ev E D 33 [.ptr (.ref 0 0), .one (.int .u64 (b : Int)), .one (.int .u8 (g : Int))] [(45, [.int .u8 (f : Int)])] H = some (.one (.int .u64 (b : Int)), [(45, [.int .u8 ((f ||| g : Nat) : Int)])], H) := by
  obtain ⟨d, rfl⟩ : ∃ d, D = d + 1 := ⟨D - 1, by omega⟩
  refine f33_le ?_
  simp only [f33, or_u8 f g hf hg]

theorem s_CAdd (hD : 6 ≤ D) (f a b : Nat) (hf : f < 256) (ha : a < 18446744073709551616) (hb : b < 18446744073709551616) :
    ev E D 19 [.ptr (.ref 0 0), .one (.int .u64 (a : Int)), .one (.int .u64 (b : Int))] [(45, [.int .u8 (f : Int)])] H = some (.one (.int .u64 ((addN a b).1 : Int)), [(45, [.int .u8 ((f ||| (addN a b).2 : Nat) : Int)])], H) := by
  obtain ⟨d, rfl⟩ : ∃ d, D = d + 1 := ⟨D - 1, by omega⟩
  refine f19_le ?_
  simp only [f19, s_Add (show 5 ≤ d by omega) a b ha hb, ob_some, rI_int, rB_bool, rC_one, rA_agg, rT_tup, tL_cons, tN_nil, cI_cons, cB_cons, cO_cons, cN_nil, bL_cons, bN_nil, optK_some, lenK_sl, lenK_nsl, List.take_length, List.take_left, s_note (show 1 ≤ d by omega) f _ _ hf (addN_fl a b)]
end Go.Ev.Try
end

section
set_option linter.all false
/- What the functions of package mat come to. -/
namespace Go.Ev.Try
open Go.Ev
variable {D : Nat} {H : Heap}

theorem pos_le (r c i j : Nat) (hr : r ≤ 4096) (hc : c ≤ 4096) (hi : i < r) (hj : j < c) : i * c + j < r * c ∧ r * c ≤ 16777216 ∧ i * c ≤ 16777216 := by
  have h1 := at_lt r c i j hi hj
  have h2 : r * c ≤ 4096 * 4096 := Nat.mul_le_mul hr hc
  omega
theorem wrap_pos (i c : Nat) (h : i * c ≤ 16777216) : IntKind.wrap .i64 ((i : Int) * (c : Int)) = ((i * c : Nat) : Int) := by
  rw [show (i : Int) * (c : Int) = ((i * c : Nat) : Int) from (Int.natCast_mul i c).symm]
  exact wrap_i64 _ (by omega) (by omega)
theorem s_in (hD : 1 ≤ D) (r c id i j : Nat) (hr : r ≤ 4096) (hc : c ≤ 4096) (hi : i < r) (hj : j < c) :
    ev E D 30 [.agg [.int .i64 (r : Int), .int .i64 (c : Int), .int .i64 (c : Int), .sl id 0 (r * c) 1], .one (.int .i64 (i : Int)), .one (.int .i64 (j : Int))] [] H = some (.one (.bool true), [], H) := by
  obtain ⟨d, rfl⟩ : ∃ d, D = d + 1 := ⟨D - 1, by omega⟩
  refine f30_le ?_
  have hp := pos_le r c i j hr hc hi hj
  simp only [f30, wrap_pos i c hp.2.2, wrap_i64 (((i * c : Nat) : Int) + (j : Int)) (by omega) (by omega), ob_some, rI_int, rB_bool, rC_one, rA_agg, rT_tup, tL_cons, tN_nil, cI_cons, cB_cons, cO_cons, cN_nil, bL_cons, bN_nil, optK_some, lenK_sl, lenK_nsl, List.take_length]
  rw [decide_eq_true (show (i : Int) ≥ 0 by omega), c_t, decide_eq_true (show (i : Int) < r by omega), c_t, decide_eq_true (show (j : Int) ≥ 0 by omega), c_t, decide_eq_true (show (j : Int) < c by omega), c_t, decide_eq_true (show (c : Int) ≥ 0 by omega), c_t, decide_eq_true (show ((i * c : Nat) : Int) + (j : Int) < ((r * c : Nat) : Int) by omega)]

theorem s_At (hD : 2 ≤ D) {r c id : Nat} {f} (hH : HM H id r c f) (i j : Nat) (hr : r ≤ 4096) (hc : c ≤ 4096) (hi : i < r) (hj : j < c) :
    ev E D 10 [.agg [.int .i64 (r : Int), .int .i64 (c : Int), .int .i64 (c : Int), .sl id 0 (r * c) 1], .one (.int .i64 (i : Int)), .one (.int .i64 (j : Int))] [] H = some (.one (.int .u64 (f i j : Int)), [], H) := by
  obtain ⟨d, rfl⟩ : ∃ d, D = d + 1 := ⟨D - 1, by omega⟩
  refine f10_le ?_
  have hp := pos_le r c i j hr hc hi hj
  have he := eltK_sl (α := Res) id 0 (r * c) 1 (i * c + j) hp.1
  simp only [f10, s_in (show 1 ≤ d by omega) r c id i j hr hc hi hj, ob_some, rI_int, rB_bool, rC_one, rA_agg, rT_tup, tL_cons, tN_nil, cI_cons, cB_cons, cO_cons, cN_nil, bL_cons, bN_nil, optK_some, lenK_sl, lenK_nsl, List.take_length, b_nt, c_f, wrap_pos i c hp.2.2, wrap_i64 (((i * c : Nat) : Int) + (j : Int)) (by omega) (by omega)]
  rw [show ((i * c : Nat) : Int) + (j : Int) = ((i * c + j : Nat) : Int) from rfl, he]
  simp only [rdM hH i j hi hj, ob_some, rI_int, rB_bool, rC_one, rA_agg, rT_tup, tL_cons, tN_nil, cI_cons, cB_cons, cO_cons, cN_nil, bL_cons, bN_nil, optK_some, lenK_sl, lenK_nsl, List.take_length]

theorem s_Set (hD : 2 ≤ D) {r c id : Nat} {f} (hH : HM H id r c f) (i j b : Nat) (hr : r ≤ 4096) (hc : c ≤ 4096) (hi : i < r) (hj : j < c) :
    ev E D 11 [.agg [.int .i64 (r : Int), .int .i64 (c : Int), .int .i64 (c : Int), .sl id 0 (r * c) 1], .one (.int .i64 (i : Int)), .one (.int .i64 (j : Int)), .one (.int .u64 (b : Int))] [] H = some (.tup [], [], H.set id (.mem 2 (u64L (MX r c (upm f i j b))))) := by
  obtain ⟨d, rfl⟩ : ∃ d, D = d + 1 := ⟨D - 1, by omega⟩
  refine f11_le ?_
  have hp := pos_le r c i j hr hc hi hj
  have he := eltK_sl (α := Res) id 0 (r * c) 1 (i * c + j) hp.1
  simp only [f11, s_in (show 1 ≤ d by omega) r c id i j hr hc hi hj, ob_some, rI_int, rB_bool, rC_one, rA_agg, rT_tup, tL_cons, tN_nil, cI_cons, cB_cons, cO_cons, cN_nil, bL_cons, bN_nil, optK_some, lenK_sl, lenK_nsl, List.take_length, c_t, wrap_pos i c hp.2.2, wrap_i64 (((i * c : Nat) : Int) + (j : Int)) (by omega) (by omega)]
  rw [show ((i * c : Nat) : Int) + (j : Int) = ((i * c + j : Nat) : Int) from rfl, he]
  simp only [stM hH i j b hi hj]

theorem s_New (hD : 1 ≤ D) (r c : Nat) (hr : r ≤ 4096) (hc : c ≤ 4096) :
    ev E D 29 [.one (.int .i64 (r : Int)), .one (.int .i64 (c : Int))] [] H = some (.agg [.int .i64 (r : Int), .int .i64 (c : Int), .int .i64 (c : Int), .sl (List.length H) 0 (r * c) 1], [], H ++ [.mem 2 (u64L (MX r c fun _ _ => 0))]) := by
  obtain ⟨d, rfl⟩ : ∃ d, D = d + 1 := ⟨D - 1, by omega⟩
  refine f29_le ?_
  have h2 : r * c ≤ 4096 * 4096 := Nat.mul_le_mul hr hc
  have hm : mkB ((r * c : Nat) : Int) ((r * c : Nat) : Int) 8 = true := by
    unfold mkB
    simp only [Bool.and_eq_true, decide_eq_true_eq, and_true]
    omega
  simp only [f29, wrap_pos r c (by omega), hm, c_t, Int.toNat_natCast, repC_zero]
  rw [decide_eq_false (show ¬ ((r : Int) < 0) by omega), c_f, decide_eq_false (show ¬ ((c : Int) < 0) by omega), c_f, decide_eq_false (show ¬ ((r : Int) > 4096) by omega), c_f, decide_eq_false (show ¬ ((c : Int) > 4096) by omega), c_f]

theorem s_Check (hD : 1 ≤ D) (r c id : Nat) (hr : r ≤ 4096) (hc : c ≤ 4096) :
    ev E D 24 [.agg [.int .i64 (r : Int), .int .i64 (c : Int), .int .i64 (c : Int), .sl id 0 (r * c) 1]] [] H = some (.one (.int .i64 0), [], H) := by
  obtain ⟨d, rfl⟩ : ∃ d, D = d + 1 := ⟨D - 1, by omega⟩
  refine f24_le ?_
  have h2 : r * c ≤ 4096 * 4096 := Nat.mul_le_mul hr hc
  simp only [f24]
  rw [decide_eq_false (show ¬ ((r : Int) < 0) by omega), c_f, decide_eq_false (show ¬ ((r : Int) > 4096) by omega), c_f, decide_eq_false (show ¬ ((c : Int) < 0) by omega), c_f, decide_eq_false (show ¬ ((c : Int) > 4096) by omega), c_f, decide_eq_false (show ¬ ((c : Int) < c) by omega), c_f, decide_eq_false (show ¬ ((c : Int) > 1099511627776) by omega), c_f]
  by_cases r0 : r = 0
  · rw [show ((r : Int) == 0) = true from by simp only [beq_iff_eq]; omega, c_t]
  · rw [show ((r : Int) == 0) = false from by apply Bool.eq_false_iff.2; simp only [ne_eq, beq_iff_eq]; omega, c_f]
    by_cases c0 : c = 0
    · rw [show ((c : Int) == 0) = true from by simp only [beq_iff_eq]; omega, c_t]
    · rw [show ((c : Int) == 0) = false from by apply Bool.eq_false_iff.2; simp only [ne_eq, beq_iff_eq]; omega, c_f]
      obtain ⟨r', rfl⟩ : ∃ r', r = r' + 1 := ⟨r - 1, by omega⟩
      have h3 : (r' + 1) * c = r' * c + c := Nat.succ_mul r' c
      rw [wrap_i64 (((r' + 1 : Nat) : Int) - 1) (by omega) (by omega), show ((r' + 1 : Nat) : Int) - 1 = (r' : Int) from by omega, wrap_pos r' c (by omega), wrap_i64 (((r' * c : Nat) : Int) + (c : Int)) (by omega) (by omega), lenK_sl, decide_eq_false (by omega), c_f]
end Go.Ev.Try
end

section
set_option linter.all false
/- Loops of package mat. -/
namespace Go.Ev.Try
open Go.Ev
variable {D : Nat} {H : Heap}

theorem HM_bound {H : Heap} {id r c : Nat} {f} (h : HM H id r c f) : id < H.length := (List.getElem?_eq_some_iff.1 h).1

theorem l_Clone0 {α : Type} (hD : 2 ≤ D) {r c id : Nat} {f} (hH : HM H id r c f) (hr : r ≤ 4096) (hc : c ≤ 4096) (i : Nat) (hi : i < r) (N n0 : Nat) (K : Int → Int → Int → Int → Int → C → Int → Int → Int → C → Heap → Option α) (x y : Int) :
    ∀ (m k j : Nat) (g : Nat → Nat → Nat), j + m = c → m < k →
      f25_l0 (ev E D) N n0 K k (i : Int) x y (c : Int) (j : Int) (r : Int) (c : Int) (c : Int) (.sl id 0 (r * c) 1) (r : Int) (c : Int) (c : Int) (.sl (List.length H) 0 (r * c) 1) (H ++ [.mem 2 (u64L (MX r c g))]) =
      K x y (r : Int) (c : Int) (c : Int) (.sl id 0 (r * c) 1) (r : Int) (c : Int) (c : Int) (.sl (List.length H) 0 (r * c) 1) (H ++ [.mem 2 (u64L (MX r c fun a b => if a = i ∧ j ≤ b then f a b else g a b))]) := by
  intro m
  induction m with
  | zero =>
    intro k j g hj hk
    obtain ⟨k, rfl⟩ : ∃ k', k = k' + 1 := ⟨k - 1, by omega⟩
    rw [f25_l0, decide_eq_false (show ¬ ((j : Int) < c) by omega), c_f]
    rw [MX_congr r c g (fun a b => if a = i ∧ j ≤ b then f a b else g a b) (fun a b ha hb => by rw [if_neg (by omega)])]
  | succ m ih =>
    intro k j g hj hk
    obtain ⟨k, rfl⟩ : ∃ k', k = k' + 1 := ⟨k - 1, by omega⟩
    rw [f25_l0, decide_eq_true (show (j : Int) < c by omega), c_t]
    simp only [s_At (H := H ++ [.mem 2 (u64L (MX r c g))]) hD (HM_app hH) i j hr hc hi (by omega), s_Set (H := H ++ [.mem 2 (u64L (MX r c g))]) hD HM_new i j (f i j) hr hc hi (by omega), set_new, ob_some, rI_int, rB_bool, rC_one, rA_agg, rT_tup, tL_cons, tN_nil, cI_cons, cB_cons, cO_cons, cN_nil, bL_cons, bN_nil, optK_some, lenK_sl, lenK_nsl, List.take_length, wrap_i64 ((j : Int) + 1) (by omega) (by omega)]
    have h := ih k (j + 1) (upm g i j (f i j)) (by omega) (by omega)
    rw [show ((j + 1 : Nat) : Int) = (j : Int) + 1 from rfl] at h
    rw [List.take_of_length_le (by simp), h, MX_congr r c _ (fun a b => if a = i ∧ j ≤ b then f a b else g a b)]
    intro a b _ _
    unfold upm
    by_cases h1 : a = i ∧ b = j
    · obtain ⟨rfl, rfl⟩ := h1; simp
    · by_cases h2 : a = i ∧ j + 1 ≤ b
      · rw [if_pos h2, if_pos ⟨h2.1, by omega⟩]
      · rw [if_neg h2, if_neg h1, if_neg (by omega)]

theorem l_Clone1 {α : Type} (hD : 2 ≤ D) {r c id : Nat} {f} (hH : HM H id r c f) (hr : r ≤ 4096) (hc : c ≤ 4096) (N n0 : Nat) (hN : c < N) (K : Int → Int → Int → C → Heap → Option α) :
    ∀ (m k i : Nat) (g : Nat → Nat → Nat), i + m = r → m < k →
      f25_l1 (ev E D) N n0 K k (r : Int) (i : Int) (r : Int) (c : Int) (c : Int) (.sl id 0 (r * c) 1) (r : Int) (c : Int) (c : Int) (.sl (List.length H) 0 (r * c) 1) (H ++ [.mem 2 (u64L (MX r c g))]) =
      K (r : Int) (c : Int) (c : Int) (.sl (List.length H) 0 (r * c) 1) (H ++ [.mem 2 (u64L (MX r c fun a b => if i ≤ a then f a b else g a b))]) := by
  intro m
  induction m with
  | zero =>
    intro k i g hi hk
    obtain ⟨k, rfl⟩ : ∃ k', k = k' + 1 := ⟨k - 1, by omega⟩
    rw [f25_l1, decide_eq_false (show ¬ ((i : Int) < r) by omega), c_f]
    rw [MX_congr r c g (fun a b => if i ≤ a then f a b else g a b) (fun a b ha hb => by rw [if_neg (by omega)])]
  | succ m ih =>
    intro k i g hi hk
    obtain ⟨k, rfl⟩ : ∃ k', k = k' + 1 := ⟨k - 1, by omega⟩
    rw [f25_l1, decide_eq_true (show (i : Int) < r by omega), c_t]
    have h0 := fun K => l_Clone0 (α := α) hD hH hr hc i (by omega) N n0 K (r : Int) (i : Int) c N 0 g (by omega) hN
    rw [show ((0 : Nat) : Int) = 0 from rfl] at h0
    rw [h0, wrap_i64 ((i : Int) + 1) (by omega) (by omega)]
    have h := ih k (i + 1) (fun a b => if a = i ∧ 0 ≤ b then f a b else g a b) (by omega) (by omega)
    rw [show ((i + 1 : Nat) : Int) = (i : Int) + 1 from rfl] at h
    rw [h, MX_congr r c _ (fun a b => if i ≤ a then f a b else g a b)]
    intro a b _ _
    by_cases h2 : i + 1 ≤ a
    · rw [if_pos h2, if_pos (by omega)]
    · rw [if_neg h2]
      by_cases h1 : a = i
      · rw [if_pos ⟨h1, Nat.zero_le _⟩, if_pos (by omega)]
      · rw [if_neg (fun h => h1 h.1), if_neg (by omega)]

theorem s_Clone (hD : 3 ≤ D) {r c id : Nat} {f} (hH : HM H id r c f) (hr : r ≤ 4096) (hc : c ≤ 4096) :
    ev E D 25 [.agg [.int .i64 (r : Int), .int .i64 (c : Int), .int .i64 (c : Int), .sl id 0 (r * c) 1]] [] H = some (.agg [.int .i64 (r : Int), .int .i64 (c : Int), .int .i64 (c : Int), .sl (List.length H) 0 (r * c) 1], [], H ++ [.mem 2 (u64L (MX r c f))]) := by
  obtain ⟨d, rfl⟩ : ∃ d, D = d + 1 := ⟨D - 1, by omega⟩
  refine f25_le ?_
  have hN : 4096 < E.N := by decide
  have h := l_Clone1 (α := Res) (D := d) (by omega) hH hr hc E.N (List.length H) (by omega) (fun x y z w h => some (.agg [.int .i64 x, .int .i64 y, .int .i64 z, w], [], h)) r E.N 0 (fun _ _ => 0) (by omega) (by omega)
  rw [show ((0 : Nat) : Int) = 0 from rfl] at h
  simp only [f25, s_New (show 1 ≤ d by omega) r c hr hc, ob_some, rI_int, rB_bool, rC_one, rA_agg, rT_tup, tL_cons, tN_nil, cI_cons, cB_cons, cO_cons, cN_nil, bL_cons, bN_nil, optK_some, lenK_sl, lenK_nsl, List.take_length, h, Nat.zero_le, if_true]

theorem l_Fin0 {α : Type} (hD : 2 ≤ D) {r c id : Nat} {f} (hH : HM H id r c f) (hu : u64M r c f) (hr : r ≤ 4096) (hc : c ≤ 4096) (i : Nat) (hi : i < r) (N n0 : Nat) (K0 : Int → Int → Int → Int → Int → C → Heap → Option α) (K1 : Heap → Option α) (x y : Int) :
    ∀ (m k j : Nat), j + m = c → m < k →
      f12_l0 (ev E D) N n0 K0 K1 k (i : Int) x y (c : Int) (j : Int) (r : Int) (c : Int) (c : Int) (.sl id 0 (r * c) 1) H =
      if finRow f c i j then K0 x y (r : Int) (c : Int) (c : Int) (.sl id 0 (r * c) 1) H else K1 H := by
  intro m
  induction m with
  | zero =>
    intro k j hj hk
    obtain ⟨k, rfl⟩ : ∃ k', k = k' + 1 := ⟨k - 1, by omega⟩
    rw [f12_l0, decide_eq_false (show ¬ ((j : Int) < c) by omega), c_f, if_pos (show finRow f c i j from fun y h1 h2 => by omega)]
  | succ m ih =>
    intro k j hj hk
    obtain ⟨k, rfl⟩ : ∃ k', k = k' + 1 := ⟨k - 1, by omega⟩
    rw [f12_l0, decide_eq_true (show (j : Int) < c by omega), c_t]
    simp only [s_At hD hH i j hr hc hi (by omega), s_Finite hD (f i j) (hu i j hi (by omega)), ob_some, rI_int, rB_bool, rC_one, rA_agg, rT_tup, tL_cons, tN_nil, cI_cons, cB_cons, cO_cons, cN_nil, bL_cons, bN_nil, optK_some, lenK_sl, lenK_nsl, List.take_length, wrap_i64 ((j : Int) + 1) (by omega) (by omega)]
    have h := ih k (j + 1) (by omega) (by omega)
    rw [show ((j + 1 : Nat) : Int) = (j : Int) + 1 from rfl] at h
    by_cases h1 : bExp (f i j) < 2047
    · rw [decide_eq_true h1, b_nt, c_f, h]
      by_cases h2 : finRow f c i (j + 1)
      · rw [if_pos h2, if_pos]
        intro y h3 h4
        by_cases h5 : y = j
        · subst h5; exact h1
        · exact h2 y (by omega) h4
      · rw [if_neg h2, if_neg]
        exact fun h3 => h2 fun y h4 h5 => h3 y (by omega) h5
    · rw [decide_eq_false h1, b_nf, c_t, if_neg]
      exact fun h3 => h1 (h3 j (Nat.le_refl _) (by omega))

theorem l_Fin1 {α : Type} (hD : 2 ≤ D) {r c id : Nat} {f} (hH : HM H id r c f) (hu : u64M r c f) (hr : r ≤ 4096) (hc : c ≤ 4096) (N n0 : Nat) (hN : c < N) (K0 K1 : Heap → Option α) :
    ∀ (m k i : Nat), i + m = r → m < k →
      f12_l1 (ev E D) N n0 K0 K1 k (r : Int) (i : Int) (r : Int) (c : Int) (c : Int) (.sl id 0 (r * c) 1) H =
      if finAll f r c i then K0 H else K1 H := by
  intro m
  induction m with
  | zero =>
    intro k j hj hk
    obtain ⟨k, rfl⟩ : ∃ k', k = k' + 1 := ⟨k - 1, by omega⟩
    rw [f12_l1, decide_eq_false (show ¬ ((j : Int) < r) by omega), c_f, if_pos (show finAll f r c j from fun y h1 h2 => by omega)]
  | succ m ih =>
    intro k i hi hk
    obtain ⟨k, rfl⟩ : ∃ k', k = k' + 1 := ⟨k - 1, by omega⟩
    rw [f12_l1, decide_eq_true (show (i : Int) < r by omega), c_t]
    have h0 := fun K0 K1 => l_Fin0 (α := α) hD hH hu hr hc i (by omega) N n0 K0 K1 (r : Int) (i : Int) c N 0 (by omega) hN
    rw [show ((0 : Nat) : Int) = 0 from rfl] at h0
    rw [h0, wrap_i64 ((i : Int) + 1) (by omega) (by omega)]
    have h := ih k (i + 1) (by omega) (by omega)
    rw [show ((i + 1 : Nat) : Int) = (i : Int) + 1 from rfl] at h
    rw [h]
    by_cases h1 : finRow f c i 0
    · rw [if_pos h1]
      by_cases h2 : finAll f r c (i + 1)
      · rw [if_pos h2, if_pos]
        intro y h3 h4
        by_cases h5 : y = i
        · subst h5; exact h1
        · exact h2 y (by omega) h4
      · rw [if_neg h2, if_neg]
        exact fun h3 => h2 fun y h4 h5 => h3 y (by omega) h5
    · rw [if_neg h1, if_neg]
      exact fun h3 => h1 (h3 i (Nat.le_refl _) (by omega))
theorem s_MFinite (hD : 3 ≤ D) {r c id : Nat} {f} (hH : HM H id r c f) (hu : u64M r c f) (hr : r ≤ 4096) (hc : c ≤ 4096) :
    ev E D 12 [.agg [.int .i64 (r : Int), .int .i64 (c : Int), .int .i64 (c : Int), .sl id 0 (r * c) 1]] [] H = some (.one (.bool (decide (finAll f r c 0))), [], H) := by
  obtain ⟨d, rfl⟩ : ∃ d, D = d + 1 := ⟨D - 1, by omega⟩
  refine f12_le ?_
  have hN : 4096 < E.N := by decide
  have h := fun K0 K1 => l_Fin1 (α := Res) (D := d) (by omega) hH hu hr hc E.N (List.length H) (by omega) K0 K1 r E.N 0 (by omega) (by omega)
  rw [show ((0 : Nat) : Int) = 0 from rfl] at h
  rw [f12, h]
  by_cases h1 : finAll f r c 0
  · rw [if_pos h1, decide_eq_true h1]
  · rw [if_neg h1, decide_eq_false h1]

theorem l_One {α : Type} (hD : 2 ≤ D) (n : Nat) (hn : n ≤ 4096) (N n0 : Nat) (K : Int → Int → Int → C → Heap → Option α) :
    ∀ (m k i : Nat) (g : Nat → Nat → Nat), i + m = n → m < k →
      f22_l0 (ev E D) N n0 K k (n : Int) (i : Int) (n : Int) (n : Int) (n : Int) (.sl (List.length H) 0 (n * n) 1) (H ++ [.mem 2 (u64L (MX n n g))]) =
      K (n : Int) (n : Int) (n : Int) (.sl (List.length H) 0 (n * n) 1) (H ++ [.mem 2 (u64L (MX n n fun a b => if a = b ∧ i ≤ a then 4607182418800017408 else g a b))]) := by
  intro m
  induction m with
  | zero =>
    intro k j g hj hk
    obtain ⟨k, rfl⟩ : ∃ k', k = k' + 1 := ⟨k - 1, by omega⟩
    rw [f22_l0, decide_eq_false (show ¬ ((j : Int) < n) by omega), c_f]
    rw [MX_congr n n g (fun a b => if a = b ∧ j ≤ a then 4607182418800017408 else g a b) (fun a b ha hb => by rw [if_neg (by omega)])]
  | succ m ih =>
    intro k i g hi hk
    obtain ⟨k, rfl⟩ : ∃ k', k = k' + 1 := ⟨k - 1, by omega⟩
    rw [f22_l0, decide_eq_true (show (i : Int) < n by omega), c_t]
    have hS := s_Set (H := H ++ [.mem 2 (u64L (MX n n g))]) hD HM_new i i 4607182418800017408 hn hn (by omega) (by omega)
    rw [show ((4607182418800017408 : Nat) : Int) = 4607182418800017408 from rfl] at hS
    simp only [hS, set_new, ob_some, rI_int, rB_bool, rC_one, rA_agg, rT_tup, tL_cons, tN_nil, cI_cons, cB_cons, cO_cons, cN_nil, bL_cons, bN_nil, optK_some, lenK_sl, lenK_nsl, List.take_length, wrap_i64 ((i : Int) + 1) (by omega) (by omega)]
    have h := ih k (i + 1) (upm g i i 4607182418800017408) (by omega) (by omega)
    rw [show ((i + 1 : Nat) : Int) = (i : Int) + 1 from rfl] at h
    rw [List.take_of_length_le (by simp), h, MX_congr n n _ (fun a b => if a = b ∧ i ≤ a then 4607182418800017408 else g a b)]
    intro a b _ _
    unfold upm
    by_cases h1 : a = b ∧ i + 1 ≤ a
    · rw [if_pos h1, if_pos ⟨h1.1, by omega⟩]
    · rw [if_neg h1]
      by_cases h2 : a = i ∧ b = i
      · rw [if_pos h2, if_pos (by omega)]
      · rw [if_neg h2, if_neg (by omega)]
theorem s_One (hD : 3 ≤ D) (n : Nat) (hn : n ≤ 4096) :
    ev E D 22 [.one (.int .i64 (n : Int))] [] H = some (.agg [.int .i64 (n : Int), .int .i64 (n : Int), .int .i64 (n : Int), .sl (List.length H) 0 (n * n) 1], [], H ++ [.mem 2 (u64L (MX n n fun a b => if a = b then 4607182418800017408 else 0))]) := by
  obtain ⟨d, rfl⟩ : ∃ d, D = d + 1 := ⟨D - 1, by omega⟩
  refine f22_le ?_
  have hN : 4096 < E.N := by decide
  have h := l_One (α := Res) (H := H) (D := d) (by omega) n hn E.N (List.length H) (fun x y z w h => some (.agg [.int .i64 x, .int .i64 y, .int .i64 z, w], [], h)) n E.N 0 (fun _ _ => 0) (by omega) (by omega)
  rw [show ((0 : Nat) : Int) = 0 from rfl] at h
  simp only [f22, s_New (show 1 ≤ d by omega) n n hn hn, ob_some, rI_int, rB_bool, rC_one, rA_agg, rT_tup, tL_cons, tN_nil, cI_cons, cB_cons, cO_cons, cN_nil, bL_cons, bN_nil, optK_some, lenK_sl, lenK_nsl, List.take_length, h, Nat.zero_le, and_true]
end Go.Ev.Try
end

section
set_option linter.all false
/- What the functions of package bal come to. -/
namespace Go.Ev.Try
open Go.Ev
variable {D : Nat} {H : Heap}

theorem l_lone {α : Type} (hD : 2 ≤ D) {n id : Nat} {f} (hH : HM H id n n f) (hu : u64M n n f) (hn : n ≤ 4096) (i hi : Nat) (col : Bool) (hin : i < n) (hhi : hi ≤ n) (N n0 : Nat) (K0 K1 : Heap → Option α) :
    ∀ (m k lo : Nat), hi - lo = m → m < k →
      f26_l1 (ev E D) N n0 K0 K1 k (i : Int) (hi : Int) col (lo : Int) (n : Int) (n : Int) (n : Int) (.sl id 0 (n * n) 1) H =
      if loneP f i lo hi col then K0 H else K1 H := by
  intro m
  induction m with
  | zero =>
    intro k lo hj hk
    obtain ⟨k, rfl⟩ : ∃ k', k = k' + 1 := ⟨k - 1, by omega⟩
    rw [f26_l1, decide_eq_false (show ¬ ((lo : Int) < hi) by omega), c_f, if_pos (show loneP f i lo hi col from fun y h1 h2 => by omega)]
  | succ m ih =>
    intro k lo hj hk
    obtain ⟨k, rfl⟩ : ∃ k', k = k' + 1 := ⟨k - 1, by omega⟩
    have hlo : lo < n := by omega
    have h := ih k (lo + 1) (by omega) (by omega)
    rw [show ((lo + 1 : Nat) : Int) = (lo : Int) + 1 from rfl] at h
    have hst := loneP_step f i lo hi col (by omega)
    have hne : ((lo : Int) != (i : Int)) = decide (lo ≠ i) := by apply Bool.eq_iff_iff.2; simp only [bne_iff_ne, decide_eq_true_eq, ne_eq]; omega
    have hk1 : ∀ x : Nat, ((bKind x : Int) != 1) = decide (bKind x ≠ 1) := fun x => by apply Bool.eq_iff_iff.2; simp only [bne_iff_ne, decide_eq_true_eq, ne_eq]; omega
    rw [f26_l1, decide_eq_true (show (lo : Int) < hi by omega), c_t]
    simp only [f26_j0, s_At hD hH i lo hn hn hin hlo, s_At hD hH lo i hn hn hlo hin, s_Kind hD (f i lo) (hu i lo hin hlo), s_Kind hD (f lo i) (hu lo i hlo hin), ob_some, rI_int, rB_bool, rC_one, rA_agg, rT_tup, tL_cons, tN_nil, cI_cons, cB_cons, cO_cons, cN_nil, bL_cons, bN_nil, optK_some, lenK_sl, lenK_nsl, List.take_length, wrap_i64 ((lo : Int) + 1) (by omega) (by omega), h, hne, hk1]
    by_cases h1 : lo = i
    · rw [decide_eq_false (show ¬ (lo ≠ i) from fun hh => hh h1)]
      simp only [c_f]
      by_cases h2 : loneP f i (lo + 1) hi col
      · rw [if_pos h2, if_pos (hst.2 ⟨.inl h1, h2⟩)]; cases col <;> rfl
      · rw [if_neg h2, if_neg (fun hh => h2 (hst.1 hh).2)]; cases col <;> rfl
    · rw [decide_eq_true (show lo ≠ i from h1)]
      simp only [c_t]
      cases col
      · simp only [c_f]
        by_cases hz : bKind (f i lo) = 1
        · rw [decide_eq_false (show ¬ (bKind (f i lo) ≠ 1) from fun hh => hh hz), c_f]
          by_cases h2 : loneP f i (lo + 1) hi false
          · rw [if_pos h2, if_pos (hst.2 ⟨.inr hz, h2⟩)]
          · rw [if_neg h2, if_neg (fun hh => h2 (hst.1 hh).2)]
        · rw [decide_eq_true (show bKind (f i lo) ≠ 1 from hz), c_t, if_neg (fun hh => (hst.1 hh).1.elim h1 hz)]
      · simp only [c_t]
        by_cases hz : bKind (f lo i) = 1
        · rw [decide_eq_false (show ¬ (bKind (f lo i) ≠ 1) from fun hh => hh hz), c_f]
          by_cases h2 : loneP f i (lo + 1) hi true
          · rw [if_pos h2, if_pos (hst.2 ⟨.inr hz, h2⟩)]
          · rw [if_neg h2, if_neg (fun hh => h2 (hst.1 hh).2)]
        · rw [decide_eq_true (show bKind (f lo i) ≠ 1 from hz), c_t, if_neg (fun hh => (hst.1 hh).1.elim h1 hz)]
theorem s_lone (hD : 3 ≤ D) {n id : Nat} {f} (hH : HM H id n n f) (hu : u64M n n f) (hn : n ≤ 4096) (i lo hi : Nat) (col : Bool) (hin : i < n) (hhi : hi ≤ n) :
    ev E D 26 [.agg [.int .i64 (n : Int), .int .i64 (n : Int), .int .i64 (n : Int), .sl id 0 (n * n) 1], .one (.int .i64 (i : Int)), .one (.int .i64 (lo : Int)), .one (.int .i64 (hi : Int)), .one (.bool col)] [] H = some (.one (.bool (decide (loneP f i lo hi col))), [], H) := by
  obtain ⟨d, rfl⟩ : ∃ d, D = d + 1 := ⟨D - 1, by omega⟩
  refine f26_le ?_
  have hN : 5000 < E.N := by decide
  have h := fun K0 K1 => l_lone (α := Res) (D := d) (by omega) hH hu hn i hi col hin hhi E.N (List.length H) K0 K1 (hi - lo) E.N lo (by omega) (by omega)
  rw [f26, h]
  by_cases h1 : loneP f i lo hi col
  · rw [if_pos h1, decide_eq_true h1]
  · rw [if_neg h1, decide_eq_false h1]

theorem l_sw0 {α : Type} (hD : 2 ≤ D) {n id : Nat} {f} (hH : HM H id n n f) (hn : n ≤ 4096) (i k : Nat) (hin : i < n) (hkn : k < n) (hik : i ≠ k) (N n0 : Nat) (K : Int → Int → Int → Int → Int → C → C → C → Int → Int → Heap → Option α) (u v : C) (x y : Int) :
    ∀ (m q j : Nat) (g : Nat → Nat → Nat), j + m = n → m < q →
      f27_l0 (ev E D) N n0 K q (i : Int) (k : Int) (n : Int) (j : Int) (n : Int) (n : Int) (n : Int) (.sl id 0 (n * n) 1) u v x y (H.set id (.mem 2 (u64L (MX n n g)))) =
      K (i : Int) (k : Int) (n : Int) (n : Int) (n : Int) (.sl id 0 (n * n) 1) u v x y (H.set id (.mem 2 (u64L (MX n n fun a b => if j ≤ b then g (sw i k a) b else g a b)))) := by
  intro m
  induction m with
  | zero =>
    intro q j g hj hk
    obtain ⟨q, rfl⟩ : ∃ k', q = k' + 1 := ⟨q - 1, by omega⟩
    rw [f27_l0, decide_eq_false (show ¬ ((j : Int) < n) by omega), c_f]
    rw [MX_congr n n g (fun a b => if j ≤ b then g (sw i k a) b else g a b) (fun a b ha hb => by rw [if_neg (by omega)])]
  | succ m ih =>
    intro q j g hj hk
    obtain ⟨q, rfl⟩ : ∃ k', q = k' + 1 := ⟨q - 1, by omega⟩
    have h := ih q (j + 1) (upm (upm g i j (g k j)) k j (g i j)) (by omega) (by omega)
    rw [show ((j + 1 : Nat) : Int) = (j : Int) + 1 from rfl] at h
    rw [f27_l0, decide_eq_true (show (j : Int) < n by omega), c_t]
    have hg : ∀ g, HM (H.set id (.mem 2 (u64L (MX n n g)))) id n n g := fun g => HM_set hH
    have hS1 := s_Set hD (hg g) i j (g k j) hn hn hin (by omega)
    have hS2 := s_Set hD (hg (upm g i j (g k j))) k j (g i j) hn hn hkn (by omega)
    rw [List.set_set] at hS1 hS2
    simp only [s_At hD (hg g) i j hn hn hin (by omega), s_At hD (hg g) k j hn hn hkn (by omega), hS1, hS2, ob_some, rI_int, rB_bool, rC_one, rA_agg, rT_tup, tL_cons, tN_nil, cI_cons, cB_cons, cO_cons, cN_nil, bL_cons, bN_nil, optK_some, lenK_sl, lenK_nsl, List.take_length, List.length_set, tk_set, wrap_i64 ((j : Int) + 1) (by omega) (by omega)]
    rw [h, MX_congr n n _ (fun a b => if j ≤ b then g (sw i k a) b else g a b)]
    intro a b _ _
    unfold upm sw
    grind
theorem l_sw1 {α : Type} (hD : 2 ≤ D) {n id : Nat} {f} (hH : HM H id n n f) (hn : n ≤ 4096) (i k : Nat) (hin : i < n) (hkn : k < n) (hik : i ≠ k) (N n0 : Nat) (K : C → C → Int → Int → Heap → Option α) (u v : C) (x y : Int) :
    ∀ (m q j : Nat) (g : Nat → Nat → Nat), j + m = n → m < q →
      f27_l1 (ev E D) N n0 K q (i : Int) (k : Int) (n : Int) (j : Int) (n : Int) (n : Int) (n : Int) (.sl id 0 (n * n) 1) u v x y (H.set id (.mem 2 (u64L (MX n n g)))) =
      K u v x y (H.set id (.mem 2 (u64L (MX n n fun a b => if j ≤ a then g a (sw i k b) else g a b)))) := by
  intro m
  induction m with
  | zero =>
    intro q j g hj hk
    obtain ⟨q, rfl⟩ : ∃ k', q = k' + 1 := ⟨q - 1, by omega⟩
    rw [f27_l1, decide_eq_false (show ¬ ((j : Int) < n) by omega), c_f]
    rw [MX_congr n n g (fun a b => if j ≤ a then g a (sw i k b) else g a b) (fun a b ha hb => by rw [if_neg (by omega)])]
  | succ m ih =>
    intro q j g hj hk
    obtain ⟨q, rfl⟩ : ∃ k', q = k' + 1 := ⟨q - 1, by omega⟩
    have h := ih q (j + 1) (upm (upm g j i (g j k)) j k (g j i)) (by omega) (by omega)
    rw [show ((j + 1 : Nat) : Int) = (j : Int) + 1 from rfl] at h
    rw [f27_l1, decide_eq_true (show (j : Int) < n by omega), c_t]
    have hg : ∀ g, HM (H.set id (.mem 2 (u64L (MX n n g)))) id n n g := fun g => HM_set hH
    have hS1 := s_Set hD (hg g) j i (g j k) hn hn (by omega) hin
    have hS2 := s_Set hD (hg (upm g j i (g j k))) j k (g j i) hn hn (by omega) hkn
    rw [List.set_set] at hS1 hS2
    simp only [s_At hD (hg g) j i hn hn (by omega) hin, s_At hD (hg g) j k hn hn (by omega) hkn, hS1, hS2, ob_some, rI_int, rB_bool, rC_one, rA_agg, rT_tup, tL_cons, tN_nil, cI_cons, cB_cons, cO_cons, cN_nil, bL_cons, bN_nil, optK_some, lenK_sl, lenK_nsl, List.take_length, List.length_set, tk_set, wrap_i64 ((j : Int) + 1) (by omega) (by omega)]
    rw [h, MX_congr n n _ (fun a b => if j ≤ a then g a (sw i k b) else g a b)]
    intro a b _ _
    unfold upm sw
    grind

theorem s_swap (hD : 3 ≤ D) {n id idp : Nat} {f p} (hH : HM H id n n f) (hP : HV H idp n p) (hne : id ≠ idp) (hn : n ≤ 4096) (i k : Nat) (hin : i < n) (hkn : k < n) (v : C) (x y : Int) :
    ev E D 27 [.agg [.int .i64 (n : Int), .int .i64 (n : Int), .int .i64 (n : Int), .sl id 0 (n * n) 1], .ptr (.ref 0 0), .one (.int .i64 (i : Int)), .one (.int .i64 (k : Int))] [(29, [.sl idp 0 n 1, v, .int .i64 x, .int .i64 y])] H =
      some (.tup [], [(29, [.sl idp 0 n 1, v, .int .i64 x, .int .i64 y])], (H.set idp (.mem 2 (i64V n fun a => p (sw i k a)))).set id (.mem 2 (u64L (MX n n fun a b => f (sw i k a) (sw i k b))))) := by
  obtain ⟨d, rfl⟩ : ∃ d, D = d + 1 := ⟨D - 1, by omega⟩
  refine f27_le ?_
  unfold f27
  by_cases hik : i = k
  · subst hik
    rw [show ((i : Int) == (i : Int)) = true from beq_self_eq_true _, c_t]
    simp only [sw_same]
    rw [set_same hP, set_same hH]
  · rw [show ((i : Int) == (k : Int)) = false from by apply Bool.eq_false_iff.2; simp only [ne_eq, beq_iff_eq]; omega, c_f]
    have hN : 5000 < E.N := by decide
    have hP1 : HV (H.set idp (.mem 2 (i64V n (uv p i (p k))))) idp n (uv p i (p k)) := HV_set hP
    simp only [eltK_sl (α := Res) idp 0 n 1 k hkn, eltK_sl (α := Res) idp 0 n 1 i hin, rdV hP k hkn, rdV hP i hin, stV hP i (p k) hin, stV hP1 k (p i) hkn, ob_some, rI_int, rB_bool, rC_one, rA_agg, rT_tup, tL_cons, tN_nil, cI_cons, cB_cons, cO_cons, cN_nil, bL_cons, bN_nil, optK_some, lenK_sl, lenK_nsl, List.take_length, List.set_set]
    have hpp : i64V n (uv (uv p i (p k)) k (p i)) = i64V n (fun a => p (sw i k a)) := i64V_congr n _ _ fun a ha => by unfold uv sw; grind
    rw [hpp]
    have hH1 : HM (H.set idp (.mem 2 (i64V n fun a => p (sw i k a)))) id n n f := HM_other hH (fun h => hne h.symm)
    obtain ⟨H1, hH1e⟩ : ∃ H1, H1 = H.set idp (.mem 2 (i64V n fun a => p (sw i k a))) := ⟨_, rfl⟩
    rw [← hH1e] at hH1 ⊢
    have h0 := fun K => l_sw0 (α := Res) (D := d) (by omega) hH1 hn i k hin hkn hik E.N (List.length H) K (.sl idp 0 n 1) v x y n E.N 0 f (by omega) (by omega)
    have h1 := fun K g => l_sw1 (α := Res) (D := d) (by omega) hH1 hn i k hin hkn hik E.N (List.length H) K (.sl idp 0 n 1) v x y n E.N 0 g (by omega) (by omega)
    rw [set_same hH1] at h0
    rw [show ((0 : Nat) : Int) = 0 from rfl] at h0 h1
    rw [h0, h1]
    simp only [Nat.zero_le, if_true]
end Go.Ev.Try
end

section
set_option linter.all false
/- What level comes to. -/
namespace Go.Ev.Try
open Go.Ev
variable {D : Nat} {H : Heap}

theorem bAbs_lt (b : Nat) : bAbs b < 18446744073709551616 := by unfold bAbs; omega

theorem l_lev0 {α : Type} (hD : 6 ≤ D) {n id : Nat} {f} (hH : HM H id n n f) (hu : u64M n n f) (hn : n ≤ 4096) (i hi : Nat) (hin : i < n) (hhi : hi ≤ n) (N n0 : Nat) (K : Int → Int → Int → Int → Int → Int → C → C → C → Int → Int → Heap → Option α) (u v : C) (x : Int) :
    ∀ (m q k col row fl : Nat), hi - k = m → m < q → col < 18446744073709551616 → row < 18446744073709551616 → fl < 256 →
      ∃ col' row' : Nat, col' < 18446744073709551616 ∧ row' < 18446744073709551616 ∧
      f28_l0 (ev E D) N n0 K q (i : Int) (col : Int) (row : Int) (k : Int) (n : Int) (n : Int) (n : Int) (.sl id 0 (n * n) 1) (fl : Int) u v x (hi : Int) H =
      K (i : Int) (col' : Int) (row' : Int) (n : Int) (n : Int) (n : Int) (.sl id 0 (n * n) 1) u v x (hi : Int) H := by
  intro m
  induction m with
  | zero =>
    intro q k col row fl hj hk hc hr hf
    obtain ⟨q, rfl⟩ : ∃ k', q = k' + 1 := ⟨q - 1, by omega⟩
    refine ⟨col, row, hc, hr, ?_⟩
    rw [f28_l0, decide_eq_false (show ¬ ((k : Int) < hi) by omega), c_f]
  | succ m ih =>
    intro q k col row fl hj hk hc hr hf
    obtain ⟨q, rfl⟩ : ∃ k', q = k' + 1 := ⟨q - 1, by omega⟩
    have hkn : k < n := by omega
    rw [f28_l0, decide_eq_true (show (k : Int) < hi by omega), c_t]
    by_cases hki : k = i
    · rw [show ((k : Int) != (i : Int)) = false from by apply Bool.eq_false_iff.2; simp only [ne_eq, bne_iff_ne]; omega, c_f, wrap_i64 ((k : Int) + 1) (by omega) (by omega)]
      exact ih q (k + 1) col row fl (by omega) (by omega) hc hr hf
    · rw [show ((k : Int) != (i : Int)) = true from by simp only [bne_iff_ne, ne_eq]; omega, c_t]
      have hc2 := addN_lt col (bAbs (f k i)) hc (bAbs_lt _)
      have hr2 := addN_lt row (bAbs (f i k)) hr (bAbs_lt _)
      have hf1 : fl ||| (addN col (bAbs (f k i))).2 < 256 := Nat.or_lt_two_pow (n := 8) hf (addN_fl _ _)
      have hf2 : fl ||| (addN col (bAbs (f k i))).2 ||| (addN row (bAbs (f i k))).2 < 256 := Nat.or_lt_two_pow (n := 8) hf1 (addN_fl _ _)
      simp only [s_At (show 2 ≤ D by omega) hH k i hn hn hkn hin, s_At (show 2 ≤ D by omega) hH i k hn hn hin hkn, s_Abs (show 1 ≤ D by omega) (f k i) (hu k i hkn hin), s_Abs (show 1 ≤ D by omega) (f i k) (hu i k hin hkn),
        s_CAdd hD fl col (bAbs (f k i)) hf hc (bAbs_lt _), s_CAdd hD _ row (bAbs (f i k)) hf1 hr (bAbs_lt _), ob_some, rI_int, rB_bool, rC_one, rA_agg, rT_tup, tL_cons, tN_nil, cI_cons, cB_cons, cO_cons, cN_nil, bL_cons, bN_nil, optK_some, lenK_sl, lenK_nsl, List.take_length, wrap_i64 ((k : Int) + 1) (by omega) (by omega)]
      exact ih q (k + 1) _ _ _ (by omega) (by omega) hc2 hr2 hf2

theorem l_lev1 {α : Type} (hD : 5 ≤ D) {n id : Nat} {f} (hH : HM H id n n f) (hu : u64M n n f) (hn : n ≤ 4096) (i : Nat) (hin : i < n) (p : Int) (hp : -1000 ≤ p ∧ p ≤ 1000) (N n0 : Nat) (K : Int → Int → Int → Int → Int → Int → C → Int → Int → Int → C → C → C → Int → Int → Heap → Option α) (u v : C) (x y : Int) :
    ∀ (m q k a : Nat) (g : Nat → Nat → Nat), k + m = n → m < q → a < 256 →
      ∃ a' : Nat, a' < 256 ∧ (a' = 0 → a = 0 ∧ lvF f n i p k) ∧
      f28_l1 (ev E D) N n0 K q (i : Int) p (a : Int) (n : Int) (k : Int) (n : Int) (n : Int) (n : Int) (.sl id 0 (n * n) 1) (n : Int) (n : Int) (n : Int) (.sl (List.length H) 0 (n * n) 1) u v x y (H ++ [.mem 2 (u64L (MX n n g))]) =
      K (i : Int) p (a' : Int) (n : Int) (n : Int) (n : Int) (.sl id 0 (n * n) 1) (n : Int) (n : Int) (n : Int) (.sl (List.length H) 0 (n * n) 1) u v x y (H ++ [.mem 2 (u64L (MX n n (lvM f i p k g)))]) := by
  intro m
  induction m with
  | zero =>
    intro q k a g hj hk ha
    obtain ⟨q, rfl⟩ : ∃ k', q = k' + 1 := ⟨q - 1, by omega⟩
    refine ⟨a, ha, fun h => ⟨h, fun z h1 h2 => by omega⟩, ?_⟩
    rw [f28_l1, decide_eq_false (show ¬ ((k : Int) < n) by omega), c_f]
    rw [MX_congr n n g (lvM f i p k g) (fun a b ha hb => by unfold lvM; rw [if_neg (by omega), if_neg (by omega)])]
  | succ m ih =>
    intro q k a g hj hk ha
    obtain ⟨q, rfl⟩ : ∃ k', q = k' + 1 := ⟨q - 1, by omega⟩
    have hkn : k < n := by omega
    rw [f28_l1, decide_eq_true (show (k : Int) < n by omega), c_t]
    by_cases hki : k = i
    · rw [show ((k : Int) != (i : Int)) = false from by apply Bool.eq_false_iff.2; simp only [ne_eq, bne_iff_ne]; omega, c_f, wrap_i64 ((k : Int) + 1) (by omega) (by omega)]
      obtain ⟨a', h1, h2, h3⟩ := ih q (k + 1) a g (by omega) (by omega) ha
      refine ⟨a', h1, fun h => ⟨(h2 h).1, fun z h4 h5 h6 => (h2 h).2 z (by omega) h5 h6⟩, ?_⟩
      rw [show ((k + 1 : Nat) : Int) = (k : Int) + 1 from rfl] at h3
      rw [h3, MX_congr n n (lvM f i p (k + 1) g) (lvM f i p k g)]
      intro b c _ _
      unfold lvM
      grind
    · rw [show ((k : Int) != (i : Int)) = true from by simp only [bne_iff_ne, ne_eq]; omega, c_t]
      obtain ⟨X, hX⟩ : ∃ X, X = scaleN (f k i) p := ⟨_, rfl⟩
      obtain ⟨Y, hY⟩ : ∃ X, X = scaleN (f i k) (-p) := ⟨_, rfl⟩
      have bX := scaleN_lt (f k i) p (hu k i hkn hin)
      have bY := scaleN_lt (f i k) (-p) (hu i k hin hkn)
      have SX := fun H => s_Scale (H := H) hD (f k i) p (hu k i hkn hin)
      have SY := fun H => s_Scale (H := H) hD (f i k) (-p) (hu i k hin hkn)
      rw [← hX] at bX
      simp only [← hX] at SX
      rw [← hY] at bY
      simp only [← hY] at SY
      have hG : ∀ g, HM (H ++ [.mem 2 (u64L (MX n n g))]) id n n f := fun g => HM_app hH
      have hS1 := s_Set (show 2 ≤ D by omega) (HM_new (H := H) (f := g)) k i X.1 hn hn hkn hin
      have hS2 := s_Set (show 2 ≤ D by omega) (HM_new (H := H) (f := upm g k i X.1)) i k Y.1 hn hn hin hkn
      rw [set_new] at hS1 hS2
      have o1 := or_u8 X.2 Y.2 bX.2 bY.2
      have o2 := or_u8 a (X.2 ||| Y.2) ha (Nat.or_lt_two_pow (n := 8) bX.2 bY.2)
      have hlen : ∀ g g', List.take (List.length (H ++ [Blk.mem 2 (u64L (MX n n g))])) (H ++ [Blk.mem 2 (u64L (MX n n g'))]) = H ++ [Blk.mem 2 (u64L (MX n n g'))] := fun g g' => List.take_of_length_le (by simp)
      simp only [s_At (show 2 ≤ D by omega) (hG g) k i hn hn hkn hin, s_At (show 2 ≤ D by omega) (hG g) i k hn hn hin hkn, SX, SY, show (0 : Int) - p = -p from by omega, wrap_i64 (-p) (by omega) (by omega), hS1, hS2, hlen, o1, o2, ob_some, rI_int, rB_bool, rC_one, rA_agg, rT_tup, tL_cons, tN_nil, cI_cons, cB_cons, cO_cons, cN_nil, bL_cons, bN_nil, optK_some, lenK_sl, lenK_nsl, List.take_length, wrap_i64 ((k : Int) + 1) (by omega) (by omega)]
      obtain ⟨a', h1, h2, h3⟩ := ih q (k + 1) (a ||| (X.2 ||| Y.2)) (upm (upm g k i X.1) i k Y.1) (by omega) (by omega) (Nat.or_lt_two_pow (n := 8) ha (Nat.or_lt_two_pow (n := 8) bX.2 bY.2))
      refine ⟨a', h1, fun h => ?_, ?_⟩
      · obtain ⟨h4, h5⟩ := h2 h
        obtain ⟨h6, h7⟩ := or_zero h4
        obtain ⟨h8, h9⟩ := or_zero h7
        refine ⟨h6, fun z h10 h11 h12 => ?_⟩
        by_cases hz : z = k
        · subst hz; rw [← hX, ← hY]; exact ⟨h8, h9⟩
        · exact h5 z (by omega) h11 h12
      · rw [show ((k + 1 : Nat) : Int) = (k : Int) + 1 from rfl] at h3
        rw [h3, MX_congr n n (lvM f i p (k + 1) (upm (upm g k i X.1) i k Y.1)) (lvM f i p k g)]
        intro b c _ _
        unfold lvM upm
        by_cases hb : b = k <;> by_cases hc : c = k <;> grind

theorem s_level (hD : 7 ≤ D) {n id idw : Nat} {f w} (hH : HM H id n n f) (hW : HV H idw n w) (hne : id ≠ idw) (hu : u64M n n f) (hn : n ≤ 4096) (i hi : Nat) (lo : Nat) (hin : i < n) (hhi : hi ≤ n) (hwi : -200 ≤ w i ∧ w i ≤ 200) (u : C) :
    ∃ (b : Bool) (H' : Heap) (g : Nat → Nat → Nat) (w' : Nat → Int),
      ev E D 28 [.ptr (.ref 0 0), .agg [.int .i64 (n : Int), .int .i64 (n : Int), .int .i64 (n : Int), .sl id 0 (n * n) 1], .one (.int .i64 (i : Int))] [(29, [u, .sl idw 0 n 1, .int .i64 (lo : Int), .int .i64 (hi : Int)])] H =
        some (.one (.bool b), [(29, [u, .sl idw 0 n 1, .int .i64 (lo : Int), .int .i64 (hi : Int)])], H') ∧
      LvR f w n i g w' ∧ HM H' id n n g ∧ HV H' idw n w' ∧ Keep H H' id idw := by
  obtain ⟨d, rfl⟩ : ∃ d, D = d + 1 := ⟨D - 1, by omega⟩
  have hN : 5000 < E.N := by decide
  have hL := Eq.refl (f28 (ev E d) E.N u (.sl idw 0 n 1) (lo : Int) (hi : Int) (n : Int) (n : Int) (n : Int) (.sl id 0 (n * n) 1) (i : Int) H)
  conv at hL => rhs; unfold f28
  have key := fun K => l_lev0 (α := Res) (D := d) (by omega) hH hu hn i hi hin hhi E.N (List.length H) K u (.sl idw 0 n 1) (lo : Int) (hi - lo) E.N lo 0 0 0 rfl (by omega) (by decide) (by decide) (by decide)
  obtain ⟨col, row, hcol, hrow, h0⟩ := key _
  rw [show ((0 : Nat) : Int) = 0 from rfl] at h0
  rw [h0] at hL
  have k3 : ∀ x : Nat, ((bKind x : Int) != 3) = decide (bKind x ≠ 3) := fun x => by apply Bool.eq_iff_iff.2; simp only [bne_iff_ne, decide_eq_true_eq, ne_eq]; omega
  have w1 : IntKind.wrap .i64 (-200 - w i) = -200 - w i := wrap_i64 _ (by omega) (by omega)
  have w2 : IntKind.wrap .i64 (200 - w i) = 200 - w i := wrap_i64 _ (by omega) (by omega)
  simp only [s_Kind (show 2 ≤ d by omega) col hcol, s_Kind (show 2 ≤ d by omega) row hrow, k3, s_Exp (show 1 ≤ d by omega) col hcol, s_Exp (show 1 ≤ d by omega) row hrow, ob_some, rI_int, rB_bool, rC_one, rA_agg, rT_tup, tL_cons, tN_nil, cI_cons, cB_cons, cO_cons, cN_nil, bL_cons, bN_nil, optK_some, lenK_sl, lenK_nsl, List.take_length, eltK_sl (α := Res) idw 0 n 1 i hin, rdV hW i hin, w1, w2] at hL
  by_cases hk1 : bKind col = 3
  case neg => rw [decide_eq_true (show bKind col ≠ 3 from hk1), c_t] at hL; exact ⟨_, _, f, w, f28_le hL, .inl ⟨rfl, rfl⟩, hH, hW, Keep.refl _ _ _⟩
  by_cases hk2 : bKind row = 3
  case neg => rw [decide_eq_false (fun h => h hk1), c_f, decide_eq_true (show bKind row ≠ 3 from hk2), c_t] at hL; exact ⟨_, _, f, w, f28_le hL, .inl ⟨rfl, rfl⟩, hH, hW, Keep.refl _ _ _⟩
  rw [decide_eq_false (show ¬ (bKind col ≠ 3) from fun h => h hk1), decide_eq_false (show ¬ (bKind row ≠ 3) from fun h => h hk2)] at hL
  simp only [c_f] at hL
  have hp := mid_le (-200 - w i) (IntKind.wrap .i64 (Int.tdiv (IntKind.wrap .i64 ((bExp row : Int) - (bExp col : Int))) 2)) (200 - w i) (by omega)
  generalize maxN (-200 - w i) (minN (IntKind.wrap .i64 (Int.tdiv (IntKind.wrap .i64 ((bExp row : Int) - (bExp col : Int))) 2)) (200 - w i)) = p at hp hL
  by_cases hp0 : p = 0
  · rw [show (p == 0) = true from by rw [hp0]; rfl, c_t] at hL; exact ⟨_, _, f, w, f28_le hL, .inl ⟨rfl, rfl⟩, hH, hW, Keep.refl _ _ _⟩
  rw [show (p == 0) = false from by apply Bool.eq_false_iff.2; simpa using hp0] at hL
  simp only [c_f, s_Clone (show 3 ≤ d by omega) hH hn hn, ob_some, rI_int, rB_bool, rC_one, rA_agg, rT_tup, tL_cons, tN_nil, cI_cons, cB_cons, cO_cons, cN_nil, bL_cons, bN_nil, optK_some, lenK_sl, lenK_nsl, List.take_length] at hL
  obtain ⟨a', ha', hz, h1⟩ := l_lev1 (α := Res) (D := d) (by omega) hH hu hn i hin p (by omega) E.N (List.length H) _ u (.sl idw 0 n 1) (lo : Int) (hi : Int) n E.N 0 0 f (by omega) (by omega) (by decide)
  rw [show ((0 : Nat) : Int) = 0 from rfl] at h1
  rw [h1] at hL
  have hH1 : ∀ g, HM (H ++ [.mem 2 (u64L (MX n n g))]) id n n f := fun g => HM_app hH
  have hW1 : ∀ g, HV (H ++ [.mem 2 (u64L (MX n n g))]) idw n w := fun g => HV_app hW
  have hne0 : ((a' : Int) != 0) = decide (a' ≠ 0) := by apply Bool.eq_iff_iff.2; simp only [bne_iff_ne, decide_eq_true_eq, ne_eq]; omega
  rw [hne0] at hL
  by_cases ha0 : a' = 0
  case neg =>
    rw [decide_eq_true (show a' ≠ 0 from ha0), c_t] at hL
    exact ⟨_, _, f, w, f28_le hL, .inl ⟨rfl, rfl⟩, hH1 _, hW1 _, (Keep.refl _ _ _).app _⟩
  rw [decide_eq_false (show ¬ (a' ≠ 0) from fun h => h ha0), c_f, cellsM (HM_new (H := H) (f := lvM f i p 0 f)), optK_some, copyM (hH1 _)] at hL
  have hH2 : HM ((H ++ [Blk.mem 2 (u64L (MX n n (lvM f i p 0 f)))]).set id (Blk.mem 2 (u64L (MX n n (lvM f i p 0 f))))) id n n (lvM f i p 0 f) := HM_set (hH1 _)
  have hW2 : HV ((H ++ [Blk.mem 2 (u64L (MX n n (lvM f i p 0 f)))]).set id (Blk.mem 2 (u64L (MX n n (lvM f i p 0 f))))) idw n w := HV_other (hW1 _) hne
  have hK : Keep H ((H ++ [Blk.mem 2 (u64L (MX n n (lvM f i p 0 f)))]).set id (Blk.mem 2 (u64L (MX n n (lvM f i p 0 f))))) id idw := ((Keep.refl _ _ _).app _).set _
  generalize (H ++ [Blk.mem 2 (u64L (MX n n (lvM f i p 0 f)))]).set id (Blk.mem 2 (u64L (MX n n (lvM f i p 0 f)))) = H2 at hL hH2 hW2 hK
  simp only [eltK_sl (α := Res) idw 0 n 1 i hin, rdV hW2 i hin, stV hW2 i _ hin, wrap_i64 (w i + p) (by omega) (by omega), ob_some, rI_int, rB_bool, rC_one, rA_agg, rT_tup, tL_cons, tN_nil, cI_cons, cB_cons, cO_cons, cN_nil, bL_cons, bN_nil, optK_some, lenK_sl, lenK_nsl, List.take_length] at hL
  exact ⟨_, _, lvM f i p 0 f, uv w i (w i + p), f28_le hL, .inr ⟨p, by omega, by omega, (hz ha0).2, rfl, rfl⟩, HM_other hH2 (fun h => hne h.symm), HV_set hW2, hK.set' _⟩
end Go.Ev.Try
end

section
set_option linter.all false
/- What bal.Of comes to. -/
namespace Go.Ev.Try
open Go.Ev
variable {D : Nat}

/-- Of a loop through rows: none is lone, or one is, and is put last. -/
theorem l_rows1 {α : Type} (hD : 3 ≤ D) {H : Heap} {n id idp : Nat} {g p} (hH : HM H id n n g) (hP : HV H idp n p) (hne : id ≠ idp) (hu : u64M n n g) (hn : n ≤ 4096) (hi : Nat) (hhi : hi ≤ n) (N n0 : Nat) (K0 K1 : Int → Int → Int → C → C → C → Int → Int → Heap → Option α) (W : C) :
    ∀ (m q : Nat), m < q → m ≤ hi → (∀ a, m ≤ a → a < hi → ¬ loneP g a 0 hi false) →
      (NoRow g 0 hi ∧ f7_l1 (ev E D) N n0 K0 K1 q ((m : Int) - 1) (n : Int) (n : Int) (n : Int) (.sl id 0 (n * n) 1) (.sl idp 0 n 1) W 0 (hi : Int) H = K0 (n : Int) (n : Int) (n : Int) (.sl id 0 (n * n) 1) (.sl idp 0 n 1) W 0 (hi : Int) H) ∨
      (∃ i, i < hi ∧ loneP g i 0 hi false ∧ f7_l1 (ev E D) N n0 K0 K1 q ((m : Int) - 1) (n : Int) (n : Int) (n : Int) (.sl id 0 (n * n) 1) (.sl idp 0 n 1) W 0 (hi : Int) H =
        K1 (n : Int) (n : Int) (n : Int) (.sl id 0 (n * n) 1) (.sl idp 0 n 1) W 0 ((hi - 1 : Nat) : Int) ((H.set idp (.mem 2 (i64V n fun a => p (sw i (hi - 1) a)))).set id (.mem 2 (u64L (MX n n fun a b => g (sw i (hi - 1) a) (sw i (hi - 1) b)))))) := by
  intro m
  induction m with
  | zero =>
    intro q hq _ hall
    obtain ⟨q, rfl⟩ : ∃ k', q = k' + 1 := ⟨q - 1, by omega⟩
    refine .inl ⟨fun a h1 h2 => hall a h1 h2, ?_⟩
    rw [f7_l1, decide_eq_false (show ¬ (((0 : Nat) : Int) - 1 ≥ 0) by omega), c_f]
  | succ m ih =>
    intro q hq hm hall
    obtain ⟨q, rfl⟩ : ∃ k', q = k' + 1 := ⟨q - 1, by omega⟩
    have e0 : ((m + 1 : Nat) : Int) - 1 = (m : Int) := by omega
    have hl := s_lone hD hH hu hn m 0 hi false (by omega) hhi
    rw [show ((0 : Nat) : Int) = 0 from rfl] at hl
    rw [e0, f7_l1, decide_eq_true (show (m : Int) ≥ 0 by omega), c_t]
    simp only [hl, ob_some, rI_int, rB_bool, rC_one, rA_agg, rT_tup, tL_cons, tN_nil, cI_cons, cB_cons, cO_cons, cN_nil, bL_cons, bN_nil, optK_some, lenK_sl, lenK_nsl, List.take_length]
    by_cases h1 : loneP g m 0 hi false
    · rw [decide_eq_true h1]
      have hs := s_swap hD hH hP hne hn m (hi - 1) (by omega) (by omega) W 0 ((hi : Int) - 1)
      rw [show ((hi - 1 : Nat) : Int) = (hi : Int) - 1 from by omega] at hs ⊢
      refine .inr ⟨m, by omega, h1, ?_⟩
      simp only [c_t, wrap_i64 ((hi : Int) - 1) (by omega) (by omega), hs, ob_some, rI_int, rB_bool, rC_one, rA_agg, rT_tup, tL_cons, tN_nil, cI_cons, cB_cons, cO_cons, cN_nil, bL_cons, bN_nil, optK_some, lenK_sl, lenK_nsl, List.take_length]
    · rw [decide_eq_false h1]
      simp only [c_f, wrap_i64 ((m : Int) - 1) (by omega) (by omega)]
      exact ih q (by omega) (by omega) fun a h2 h3 => by
        by_cases ha : a = m
        · subst ha; exact h1
        · exact hall a (by omega) h3

/-- What is so after rows and columns were put apart. -/
structure St (H0 H : Heap) (n id idp idw : Nat) (f g : Nat → Nat → Nat) (σ : Nat → Nat) (w : Nat → Int) : Prop where
  mat : HM H id n n g
  prm : HV H idp n fun x => (σ x : Int)
  pow : HV H idw n w
  isp : Prm σ n
  old : Old H0 H
  u64 : u64M n n g

theorem l_rows2 {α : Type} (hD : 3 ≤ D) {H0 : Heap} {n id idp idw : Nat} {f : Nat → Nat → Nat} {w} (h1 : H0.length ≤ id) (h2 : H0.length ≤ idp) (hne : id ≠ idp) (hn1 : idw ≠ id) (hn2 : idw ≠ idp) (hn : n ≤ 4096) (N n0 : Nat) (hN : 5000 < N) (K0 : Int → Int → Int → C → C → C → Int → Int → Heap → Option α) :
    ∀ (hi q : Nat) (H : Heap) (g : Nat → Nat → Nat) (σ : Nat → Nat), hi < q → hi ≤ n → St H0 H n id idp idw f g σ w → (∀ a b, g a b = f (σ a) (σ b)) → Zr g n 0 hi →
      ∃ (hi' : Nat) (H' : Heap) (g' : Nat → Nat → Nat) (σ' : Nat → Nat), St H0 H' n id idp idw f g' σ' w ∧ (∀ a b, g' a b = f (σ' a) (σ' b)) ∧ Zr g' n 0 hi' ∧ NoRow g' 0 hi' ∧
      f7_l2 (ev E D) N n0 K0 q (n : Int) (n : Int) (n : Int) (.sl id 0 (n * n) 1) (.sl idp 0 n 1) (.sl idw 0 n 1) 0 (hi : Int) H = K0 (n : Int) (n : Int) (n : Int) (.sl id 0 (n * n) 1) (.sl idp 0 n 1) (.sl idw 0 n 1) 0 (hi' : Int) H' := by
  intro hi
  induction hi with
  | zero =>
    intro q H g σ hq hhi hS hg hz
    obtain ⟨q, rfl⟩ : ∃ k', q = k' + 1 := ⟨q - 1, by omega⟩
    refine ⟨0, H, g, σ, hS, hg, hz, fun i _ h => by omega, ?_⟩
    rw [f7_l2]
    have hw : IntKind.wrap .i64 (((0 : Nat) : Int) - 1) = ((0 : Nat) : Int) - 1 := wrap_i64 _ (by omega) (by omega)
    rw [hw]
    rcases l_rows1 (α := α) hD hS.mat hS.prm hne hS.u64 hn 0 hhi N n0 (fun x1751 x1752 x1753 c1754 c1755 c1756 x1757 x1758 h1759 => (K0 x1751 x1752 x1753 c1754 c1755 c1756 x1757 x1758 h1759)) (fun x1760 x1761 x1762 c1763 c1764 c1765 x1766 x1767 h1768 => (f7_l2 (ev E D) N n0 K0 q x1760 x1761 x1762 c1763 c1764 c1765 x1766 x1767 h1768)) (.sl idw 0 n 1) 0 N (by omega) (by omega) (fun a _ h => by omega) with ⟨_, h⟩ | ⟨i, hi, _⟩
    · exact h
    · omega
  | succ hi ih =>
    intro q H g σ hq hhi hS hg hz
    obtain ⟨q, rfl⟩ : ∃ k', q = k' + 1 := ⟨q - 1, by omega⟩
    have hw : IntKind.wrap .i64 (((hi + 1 : Nat) : Int) - 1) = ((hi + 1 : Nat) : Int) - 1 := wrap_i64 _ (by omega) (by omega)
    rcases l_rows1 (α := α) hD hS.mat hS.prm hne hS.u64 hn (hi + 1) hhi N n0 (fun x1751 x1752 x1753 c1754 c1755 c1756 x1757 x1758 h1759 => (K0 x1751 x1752 x1753 c1754 c1755 c1756 x1757 x1758 h1759)) (fun x1760 x1761 x1762 c1763 c1764 c1765 x1766 x1767 h1768 => (f7_l2 (ev E D) N n0 K0 q x1760 x1761 x1762 c1763 c1764 c1765 x1766 x1767 h1768)) (.sl idw 0 n 1) (hi + 1) N (by omega) (by omega) (fun a _ h => by omega) with ⟨hr, h⟩ | ⟨i, hi1, hlo, h⟩
    · refine ⟨hi + 1, H, g, σ, hS, hg, hz, hr, ?_⟩
      rw [f7_l2, hw]
      exact h
    · have hS' : St H0 ((H.set idp (.mem 2 (i64V n fun a => (σ (sw i hi a) : Int)))).set id (.mem 2 (u64L (MX n n fun a b => g (sw i hi a) (sw i hi b))))) n id idp idw f (fun a b => g (sw i hi a) (sw i hi b)) (fun a => σ (sw i hi a)) w := {
        mat := HM_set (HM_other hS.mat (fun h => hne h.symm))
        prm := HV_other (HV_set hS.prm) hne
        pow := HV_other (HV_other hS.pow (fun h => hn2 h.symm)) (fun h => hn1 h.symm)
        isp := hS.isp.sw i hi (by omega) (by omega)
        old := (hS.old.set h2 _).set h1 _
        u64 := fun a b ha hb => hS.u64 _ _ (sw_lt i hi a n (by omega) (by omega) ha) (sw_lt i hi b n (by omega) (by omega) hb) }
      have hz' := hz.rowstep hi1 hlo
      rw [Nat.add_sub_cancel] at hz' h
      obtain ⟨hi', H', g', σ', r1, r2, r3, r4, r5⟩ := ih q _ _ _ (by omega) (by omega) hS' (fun a b => hg _ _) hz'
      refine ⟨hi', H', g', σ', r1, r2, r3, r4, ?_⟩
      rw [f7_l2, hw]
      exact h.trans r5

theorem l_cols1 {α : Type} (hD : 3 ≤ D) {H : Heap} {n id idp : Nat} {g p} (hH : HM H id n n g) (hP : HV H idp n p) (hne : id ≠ idp) (hu : u64M n n g) (hn : n ≤ 4096) (lo hi : Nat) (hhi : hi ≤ n) (N n0 : Nat) (K0 K1 : Int → Int → Int → C → C → C → Int → Int → Heap → Option α) (W : C) :
    ∀ (m q i : Nat), m < q → i + m = hi → lo ≤ i → (∀ a, lo ≤ a → a < i → ¬ loneP g a lo hi true) →
      (NoCol g lo hi ∧ f7_l3 (ev E D) N n0 K0 K1 q (i : Int) (n : Int) (n : Int) (n : Int) (.sl id 0 (n * n) 1) (.sl idp 0 n 1) W (lo : Int) (hi : Int) H = K0 (n : Int) (n : Int) (n : Int) (.sl id 0 (n * n) 1) (.sl idp 0 n 1) W (lo : Int) (hi : Int) H) ∨
      (∃ a, lo ≤ a ∧ a < hi ∧ loneP g a lo hi true ∧ f7_l3 (ev E D) N n0 K0 K1 q (i : Int) (n : Int) (n : Int) (n : Int) (.sl id 0 (n * n) 1) (.sl idp 0 n 1) W (lo : Int) (hi : Int) H =
        K1 (n : Int) (n : Int) (n : Int) (.sl id 0 (n * n) 1) (.sl idp 0 n 1) W ((lo + 1 : Nat) : Int) (hi : Int) ((H.set idp (.mem 2 (i64V n fun x => p (sw a lo x)))).set id (.mem 2 (u64L (MX n n fun x b => g (sw a lo x) (sw a lo b)))))) := by
  intro m
  induction m with
  | zero =>
    intro q i hq hi0 hlo hall
    obtain ⟨q, rfl⟩ : ∃ k', q = k' + 1 := ⟨q - 1, by omega⟩
    refine .inl ⟨fun a h1 h2 => hall a h1 (by omega), ?_⟩
    rw [f7_l3, decide_eq_false (show ¬ ((i : Int) < hi) by omega), c_f]
  | succ m ih =>
    intro q i hq hi0 hlo hall
    obtain ⟨q, rfl⟩ : ∃ k', q = k' + 1 := ⟨q - 1, by omega⟩
    have hl := s_lone hD hH hu hn i lo hi true (by omega) hhi
    rw [f7_l3, decide_eq_true (show (i : Int) < hi by omega), c_t]
    simp only [hl, ob_some, rI_int, rB_bool, rC_one, rA_agg, rT_tup, tL_cons, tN_nil, cI_cons, cB_cons, cO_cons, cN_nil, bL_cons, bN_nil, optK_some, lenK_sl, lenK_nsl, List.take_length]
    by_cases h1 : loneP g i lo hi true
    · rw [decide_eq_true h1]
      have hs := s_swap hD hH hP hne hn i lo (by omega) (by omega) W (lo : Int) (hi : Int)
      refine .inr ⟨i, hlo, by omega, h1, ?_⟩
      simp only [c_t, wrap_i64 ((lo : Int) + 1) (by omega) (by omega), hs, ob_some, rI_int, rB_bool, rC_one, rA_agg, rT_tup, tL_cons, tN_nil, cI_cons, cB_cons, cO_cons, cN_nil, bL_cons, bN_nil, optK_some, lenK_sl, lenK_nsl, List.take_length]
      rfl
    · rw [decide_eq_false h1]
      simp only [c_f, wrap_i64 ((i : Int) + 1) (by omega) (by omega)]
      exact ih q (i + 1) (by omega) (by omega) (by omega) fun a h2 h3 => by
        by_cases ha : a = i
        · subst ha; exact h1
        · exact hall a h2 (by omega)

theorem l_cols2 {α : Type} (hD : 3 ≤ D) {H0 : Heap} {n id idp idw : Nat} {f : Nat → Nat → Nat} {w} (h1 : H0.length ≤ id) (h2 : H0.length ≤ idp) (hne : id ≠ idp) (hn1 : idw ≠ id) (hn2 : idw ≠ idp) (hn : n ≤ 4096) (hi : Nat) (N n0 : Nat) (hN : 5000 < N) (K0 : Int → Int → Int → C → C → C → Int → Int → Heap → Option α) :
    ∀ (m lo q : Nat) (H : Heap) (g : Nat → Nat → Nat) (σ : Nat → Nat), m < q → lo + m = hi → St H0 H n id idp idw f g σ w → (∀ a b, g a b = f (σ a) (σ b)) → Zr g n lo hi → NoRow g 0 hi →
      ∃ (lo' : Nat) (H' : Heap) (g' : Nat → Nat → Nat) (σ' : Nat → Nat), St H0 H' n id idp idw f g' σ' w ∧ (∀ a b, g' a b = f (σ' a) (σ' b)) ∧ Zr g' n lo' hi ∧ NoRow g' 0 hi ∧ NoCol g' lo' hi ∧
      f7_l4 (ev E D) N n0 K0 q (n : Int) (n : Int) (n : Int) (.sl id 0 (n * n) 1) (.sl idp 0 n 1) (.sl idw 0 n 1) (lo : Int) (hi : Int) H = K0 (n : Int) (n : Int) (n : Int) (.sl id 0 (n * n) 1) (.sl idp 0 n 1) (.sl idw 0 n 1) (lo' : Int) (hi : Int) H' := by
  intro m
  induction m with
  | zero =>
    intro lo q H g σ hq hlo hS hg hz hr
    obtain ⟨q, rfl⟩ : ∃ k', q = k' + 1 := ⟨q - 1, by omega⟩
    have hb := hz.bd
    rcases l_cols1 (α := α) hD hS.mat hS.prm hne hS.u64 hn lo hi hz.bd N n0 (fun x1751 x1752 x1753 c1754 c1755 c1756 x1757 x1758 h1759 => (K0 x1751 x1752 x1753 c1754 c1755 c1756 x1757 x1758 h1759)) (fun x1760 x1761 x1762 c1763 c1764 c1765 x1766 x1767 h1768 => (f7_l4 (ev E D) N n0 K0 q x1760 x1761 x1762 c1763 c1764 c1765 x1766 x1767 h1768)) (.sl idw 0 n 1) 0 N lo (by omega) (by omega) (by omega) (fun a _ h => by omega) with ⟨hc, h⟩ | ⟨i, hi1, hi2, _⟩
    · refine ⟨lo, H, g, σ, hS, hg, hz, hr, hc, ?_⟩
      rw [f7_l4]
      exact h
    · omega
  | succ m ih =>
    intro lo q H g σ hq hlo hS hg hz hr
    obtain ⟨q, rfl⟩ : ∃ k', q = k' + 1 := ⟨q - 1, by omega⟩
    have hb := hz.bd
    rcases l_cols1 (α := α) hD hS.mat hS.prm hne hS.u64 hn lo hi hz.bd N n0 (fun x1751 x1752 x1753 c1754 c1755 c1756 x1757 x1758 h1759 => (K0 x1751 x1752 x1753 c1754 c1755 c1756 x1757 x1758 h1759)) (fun x1760 x1761 x1762 c1763 c1764 c1765 x1766 x1767 h1768 => (f7_l4 (ev E D) N n0 K0 q x1760 x1761 x1762 c1763 c1764 c1765 x1766 x1767 h1768)) (.sl idw 0 n 1) (m + 1) N lo (by omega) (by omega) (by omega) (fun a _ h => by omega) with ⟨hc, h⟩ | ⟨i, hi1, hi2, hl, h⟩
    · refine ⟨lo, H, g, σ, hS, hg, hz, hr, hc, ?_⟩
      rw [f7_l4]
      exact h
    · have hS' : St H0 ((H.set idp (.mem 2 (i64V n fun a => (σ (sw i lo a) : Int)))).set id (.mem 2 (u64L (MX n n fun a b => g (sw i lo a) (sw i lo b))))) n id idp idw f (fun a b => g (sw i lo a) (sw i lo b)) (fun a => σ (sw i lo a)) w := {
        mat := HM_set (HM_other hS.mat (fun h => hne h.symm))
        prm := HV_other (HV_set hS.prm) hne
        pow := HV_other (HV_other hS.pow (fun h => hn2 h.symm)) (fun h => hn1 h.symm)
        isp := hS.isp.sw i lo (by omega) (by omega)
        old := (hS.old.set h2 _).set h1 _
        u64 := fun a b ha hb => hS.u64 _ _ (sw_lt i lo a n (by omega) (by omega) ha) (sw_lt i lo b n (by omega) (by omega) hb) }
      have hz' := hz.colstep hi2 hi1 hl
      obtain ⟨lo', H', g', σ', r1, r2, r3, r4, r5, r6⟩ := ih (lo + 1) q _ _ _ (by omega) (by omega) hS' (fun a b => hg _ _) hz' (hr.step hi2 (by omega))
      refine ⟨lo', H', g', σ', r1, r2, r3, r4, r5, ?_⟩
      rw [f7_l4]
      exact h.trans r6

/-- What is so while rows and columns are scaled. -/
structure Sc (n lo hi : Nat) (f g : Nat → Nat → Nat) (σ : Nat → Nat) (w : Nat → Int) : Prop where
  scr : ∀ a b, a < n → b < n → ScR (f (σ a) (σ b)) (g a b) (w b - w a)
  wle : ∀ a, a < n → -200 ≤ w a ∧ w a ≤ 200
  w0 : ∀ a, a < n → (a < lo ∨ hi ≤ a) → w a = 0
  zr : Zr g n lo hi
  row : NoRow g lo hi
  col : NoCol g lo hi

theorem Sc.lev {n lo hi : Nat} {f g : Nat → Nat → Nat} {σ : Nat → Nat} {w : Nat → Int} (h : Sc n lo hi f g σ w) {i : Nat} (hi1 : lo ≤ i) (hi2 : i < hi) {g' : Nat → Nat → Nat} {w' : Nat → Int} (hl : LvR g w n i g' w') : Sc n lo hi f g' σ w' := by
  rcases hl with ⟨rfl, rfl⟩ | ⟨p, hp1, hp2, hf, rfl, rfl⟩
  · exact h
  · have hb := h.zr.bd
    have hwi := h.wle i (by omega)
    have hz := lvM_sameZ n i g p hf
    refine ⟨?_, ?_, ?_, hz.zr h.zr, fun a h1 h2 h3 => h.row a h1 h2 (hz.lone false (by omega) hb h3), fun a h1 h2 h3 => h.col a h1 h2 (hz.lone true (by omega) hb h3)⟩
    · intro a b ha hb
      unfold lvM uv
      by_cases h1 : b = i ∧ 0 ≤ a ∧ a ≠ i
      · obtain ⟨rfl, h2, h3⟩ := h1
        rw [if_pos ⟨rfl, h2, h3⟩, if_pos rfl, if_neg h3]
        have := ScR.step p (by omega) (h.scr a b ha hb) (hf a (Nat.zero_le _) ha h3).1
        rw [show w b + p - w a = w b - w a + p from by omega]
        exact this
      · rw [if_neg h1]
        by_cases h2 : a = i ∧ 0 ≤ b ∧ b ≠ i
        · obtain ⟨rfl, h4, h3⟩ := h2
          rw [if_pos ⟨rfl, h4, h3⟩, if_neg h3, if_pos rfl]
          have := ScR.step (-p) (by omega) (h.scr a b ha hb) (hf b (Nat.zero_le _) hb h3).2
          rw [show w b - (w a + p) = w b - w a + -p from by omega]
          exact this
        · rw [if_neg h2]
          have := h.scr a b ha hb
          by_cases h3 : a = i
          · have h4 : b = i := by
              by_cases h4 : b = i
              · exact h4
              · exact absurd ⟨h3, Nat.zero_le _, h4⟩ h2
            rw [if_pos h3, if_pos h4]
            rw [h3, h4] at this ⊢
            rw [show w i + p - (w i + p) = w i - w i from by omega]
            exact this
          · have h4 : b ≠ i := fun h4 => h1 ⟨h4, Nat.zero_le _, h3⟩
            rw [if_neg h3, if_neg h4]
            exact this
    · intro a ha
      unfold uv
      by_cases h1 : a = i
      · rw [if_pos h1]; exact ⟨hp1, hp2⟩
      · rw [if_neg h1]; exact h.wle a ha
    · intro a ha h1
      unfold uv
      rw [if_neg (by omega)]
      exact h.w0 a ha h1
end Go.Ev.Try
end

section
set_option linter.all false
/- What bal.Of comes to: the end. -/
namespace Go.Ev.Try
open Go.Ev
variable {D : Nat}

theorem LvR_u64 {f g : Nat → Nat → Nat} {w w' : Nat → Int} {n i : Nat} (hin : i < n) (hu : u64M n n f) (h : LvR f w n i g w') : u64M n n g := by
  rcases h with ⟨rfl, _⟩ | ⟨p, _, _, _, rfl, _⟩
  · exact hu
  · intro a b ha hb
    unfold lvM
    split
    · exact scaleN_bd _ _ (hu a i ha hin)
    · split
      · exact scaleN_bd _ _ (hu i b hin hb)
      · exact hu a b ha hb

theorem l_lev5 {α : Type} (hD : 7 ≤ D) {H0 : Heap} {n id idp idw lo hi : Nat} {f : Nat → Nat → Nat} {σ : Nat → Nat} (h1 : H0.length ≤ id) (h2 : H0.length ≤ idw) (hne : id ≠ idp) (hn1 : idw ≠ id) (hn2 : idw ≠ idp) (hn : n ≤ 4096) (N n0 : Nat) (round : Int) (K0 : Bool → Int → Int → Int → Int → C → C → C → Int → Int → Heap → Option α) :
    ∀ (m q i : Nat) (again : Bool) (H : Heap) (g : Nat → Nat → Nat) (w : Nat → Int), m < q → i + m = hi → lo ≤ i → St H0 H n id idp idw f g σ w → Sc n lo hi f g σ w →
      ∃ (again' : Bool) (H' : Heap) (g' : Nat → Nat → Nat) (w' : Nat → Int), St H0 H' n id idp idw f g' σ w' ∧ Sc n lo hi f g' σ w' ∧
      f7_l5 (ev E D) N n0 K0 q again round (i : Int) (n : Int) (n : Int) (n : Int) (.sl id 0 (n * n) 1) (.sl idp 0 n 1) (.sl idw 0 n 1) (lo : Int) (hi : Int) H = K0 again' round (n : Int) (n : Int) (n : Int) (.sl id 0 (n * n) 1) (.sl idp 0 n 1) (.sl idw 0 n 1) (lo : Int) (hi : Int) H' := by
  intro m
  induction m with
  | zero =>
    intro q i again H g w hq hi0 hlo hS hC
    obtain ⟨q, rfl⟩ : ∃ k', q = k' + 1 := ⟨q - 1, by omega⟩
    refine ⟨again, H, g, w, hS, hC, ?_⟩
    rw [f7_l5, decide_eq_false (show ¬ ((i : Int) < hi) by omega), c_f]
  | succ m ih =>
    intro q i again H g w hq hi0 hlo hS hC
    obtain ⟨q, rfl⟩ : ∃ k', q = k' + 1 := ⟨q - 1, by omega⟩
    have hb := hC.zr.bd
    obtain ⟨b, H1, g1, w1, e1, r1, r2, r3, r4⟩ := s_level hD hS.mat hS.pow (fun h => hn1 h.symm) hS.u64 hn i hi lo (by omega) hb (hC.wle i (by omega)) (.sl idp 0 n 1)
    have hP : HV H1 idp n fun x => (σ x : Int) := by
      show H1[idp]? = _
      rw [r4.2 idp (HV_bound hS.prm) (fun h => hne h.symm) (fun h => hn2 h.symm)]
      exact hS.prm
    have hS1 : St H0 H1 n id idp idw f g1 σ w1 := ⟨r2, hP, r3, hS.isp, hS.old.keep h1 h2 r4, LvR_u64 (by omega) hS.u64 r1⟩
    have hC1 := hC.lev hlo (by omega) r1
    rw [f7_l5, decide_eq_true (show (i : Int) < hi by omega), c_t]
    simp only [e1, ob_some, rI_int, rB_bool, rC_one, rA_agg, rT_tup, tL_cons, tN_nil, cI_cons, cB_cons, cO_cons, cN_nil, bL_cons, bN_nil, optK_some, lenK_sl, lenK_nsl, List.take_length, wrap_i64 ((i : Int) + 1) (by omega) (by omega)]
    cases b
    · rw [c_f]; exact ih q (i + 1) again H1 g1 w1 (by omega) (by omega) (by omega) hS1 hC1
    · rw [c_t]; exact ih q (i + 1) true H1 g1 w1 (by omega) (by omega) (by omega) hS1 hC1

theorem l_lev6 {α : Type} (hD : 7 ≤ D) {H0 : Heap} {n id idp idw lo hi : Nat} {f : Nat → Nat → Nat} {σ : Nat → Nat} (h1 : H0.length ≤ id) (h2 : H0.length ≤ idw) (hne : id ≠ idp) (hn1 : idw ≠ id) (hn2 : idw ≠ idp) (hn : n ≤ 4096) (N n0 : Nat) (hN : 5000 < N) (K0 : Int → Int → Int → C → C → C → Int → Int → Heap → Option α) :
    ∀ (m q r : Nat) (again : Bool) (H : Heap) (g : Nat → Nat → Nat) (w : Nat → Int), m < q → r + m = 20 → St H0 H n id idp idw f g σ w → Sc n lo hi f g σ w →
      ∃ (H' : Heap) (g' : Nat → Nat → Nat) (w' : Nat → Int), St H0 H' n id idp idw f g' σ w' ∧ Sc n lo hi f g' σ w' ∧
      f7_l6 (ev E D) N n0 K0 q again (r : Int) (n : Int) (n : Int) (n : Int) (.sl id 0 (n * n) 1) (.sl idp 0 n 1) (.sl idw 0 n 1) (lo : Int) (hi : Int) H = K0 (n : Int) (n : Int) (n : Int) (.sl id 0 (n * n) 1) (.sl idp 0 n 1) (.sl idw 0 n 1) (lo : Int) (hi : Int) H' := by
  intro m
  induction m with
  | zero =>
    intro q r again H g w hq hr hS hC
    obtain ⟨q, rfl⟩ : ∃ k', q = k' + 1 := ⟨q - 1, by omega⟩
    refine ⟨H, g, w, hS, hC, ?_⟩
    rw [f7_l6, decide_eq_false (show ¬ ((r : Int) < 20) by omega)]
    cases again <;> rfl
  | succ m ih =>
    intro q r again H g w hq hr hS hC
    obtain ⟨q, rfl⟩ : ∃ k', q = k' + 1 := ⟨q - 1, by omega⟩
    have hb := hC.zr.bd
    have hl := hC.zr.le
    rw [f7_l6]
    cases again
    · exact ⟨H, g, w, hS, hC, by rw [c_f]⟩
    · rw [c_t, decide_eq_true (show (r : Int) < 20 by omega), c_t]
      obtain ⟨again', H1, g1, w1, r1, r2, r3⟩ := l_lev5 (α := α) hD h1 h2 hne hn1 hn2 hn N n0 (r : Int) (fun b1821 x1822 x1823 x1824 x1825 c1826 c1827 c1828 x1829 x1830 h1831 => (let x1832 : Int := (IntKind.wrap .i64 (x1822 + 1)); (f7_l6 (ev E D) N n0 K0 q b1821 x1832 x1823 x1824 x1825 c1826 c1827 c1828 x1829 x1830 h1831))) (hi - lo) N lo false H g w (by omega) (by omega) (Nat.le_refl _) hS hC
      obtain ⟨H2, g2, w2, r4, r5, r6⟩ := ih q (r + 1) again' H1 g1 w1 (by omega) (by omega) r1 r2
      refine ⟨H2, g2, w2, r4, r5, ?_⟩
      rw [r3]
      show f7_l6 (ev E D) N n0 K0 q again' (IntKind.wrap .i64 ((r : Int) + 1)) _ _ _ _ _ _ _ _ _ = _
      rw [wrap_i64 ((r : Int) + 1) (by omega) (by omega)]
      exact r6

theorem l_plc {α : Type} (H : Heap) {n idp : Nat} {p : Nat → Int} (hP : HV H idp n p) (hn : n ≤ 4096) (call : Nat → List V → List Box → Heap → Option Res) (N n0 : Nat) (K0 : Int → Int → Int → C → C → C → Int → Heap → Option α) (x y z : Int) (M W : C) :
    ∀ (m q i : Nat) (p : Nat → Int), m < q → i + m = n →
      f7_l0 call N n0 K0 q (n : Int) (i : Int) x y z M (.sl idp 0 n 1) W (n : Int) (H.set idp (.mem 2 (i64V n p))) = K0 x y z M (.sl idp 0 n 1) W (n : Int) (H.set idp (.mem 2 (i64V n fun a => if i ≤ a then (a : Int) else p a))) := by
  intro m
  induction m with
  | zero =>
    intro q i p hq hi
    obtain ⟨q, rfl⟩ : ∃ k', q = k' + 1 := ⟨q - 1, by omega⟩
    rw [f7_l0, decide_eq_false (show ¬ ((i : Int) < n) by omega), c_f, i64V_congr n p (fun a => if i ≤ a then (a : Int) else p a) (fun a ha => by rw [if_neg (by omega)])]
  | succ m ih =>
    intro q i p hq hi
    obtain ⟨q, rfl⟩ : ∃ k', q = k' + 1 := ⟨q - 1, by omega⟩
    rw [f7_l0, decide_eq_true (show (i : Int) < n by omega), c_t]
    have hP1 : HV (H.set idp (.mem 2 (i64V n p))) idp n p := HV_set hP
    simp only [eltK_sl (α := α) idp 0 n 1 i (by omega), stV hP1 i _ (show i < n by omega), List.set_set, wrap_i64 ((i : Int) + 1) (by omega) (by omega)]
    have h := ih q (i + 1) (uv p i (i : Int)) (by omega) (by omega)
    rw [show ((i + 1 : Nat) : Int) = (i : Int) + 1 from rfl] at h
    rw [h, i64V_congr n _ (fun a => if i ≤ a then (a : Int) else p a)]
    intro a ha
    unfold uv
    grind

theorem rep_i64 (n : Nat) : repC [.int .i64 0] n = i64V n fun _ => 0 := by
  rw [repC_rep]
  unfold i64V
  apply List.ext_getElem?
  intro p
  rw [List.getElem?_map, List.getElem?_replicate]
  by_cases hp : p < n
  · rw [if_pos hp, List.getElem?_range hp]; rfl
  · rw [if_neg hp, List.getElem?_eq_none (by simp; omega)]; rfl
theorem two_dead (H : Heap) (a b : Blk) : List.set (List.set ((H ++ [Blk.dead]) ++ [Blk.dead]) (List.length H) a) (List.length H + 1) b = H ++ [a, b] := by
  rw [List.append_assoc, List.set_append_right _ _ (Nat.le_refl _), Nat.sub_self, List.set_append_right _ _ (by omega), show List.length H + 1 - List.length H = 1 from by omega]
  rfl
theorem s_Of_bad (hD : 8 ≤ D) {H : Heap} {n id : Nat} {f} (hH : HM H id n n f) (hu : u64M n n f) (hn : n ≤ 4096) (hf : ¬ finAll f n n 0) :
    ev E D 7 [.agg [.int .i64 (n : Int), .int .i64 (n : Int), .int .i64 (n : Int), .sl id 0 (n * n) 1]] [] H = some (.tup [.agg [.int .i64 0, .int .i64 0, .int .i64 0, .nsl], .agg [.nsl, .nsl, .int .i64 0, .int .i64 0], .one (.int .i64 6)], [], H) := by
  obtain ⟨d, rfl⟩ : ∃ d, D = d + 1 := ⟨D - 1, by omega⟩
  refine f7_le ?_
  simp only [f7, s_Check (show 1 ≤ d by omega) n n id hn hn, s_MFinite (show 3 ≤ d by omega) hH hu hn hn, ob_some, rI_int, rB_bool, rC_one, rA_agg, rT_tup, tL_cons, tN_nil, cI_cons, cB_cons, cO_cons, cN_nil, bL_cons, bN_nil, optK_some, lenK_sl, lenK_nsl, List.take_length, decide_eq_false hf]
  rw [show ((0 : Int) != 0) = false from rfl, c_f, show ((n : Int) != (n : Int)) = false from by simp, c_f, b_nf, c_t]
theorem s_Of (hD : 8 ≤ D) {H : Heap} {n id : Nat} {f} (hH : HM H id n n f) (hu : u64M n n f) (hn : n ≤ 4096) (hf : finAll f n n 0) :
    ∃ (lo hi : Nat) (H' : Heap) (g : Nat → Nat → Nat) (σ : Nat → Nat) (w : Nat → Int), St H H' n (List.length H) (List.length H + 1) (List.length H + 2) f g σ w ∧ Sc n lo hi f g σ w ∧
    ev E D 7 [.agg [.int .i64 (n : Int), .int .i64 (n : Int), .int .i64 (n : Int), .sl id 0 (n * n) 1]] [] H =
      some (.tup [.agg [.int .i64 (n : Int), .int .i64 (n : Int), .int .i64 (n : Int), .sl (List.length H) 0 (n * n) 1], .agg [.sl (List.length H + 1) 0 n 1, .sl (List.length H + 2) 0 n 1, .int .i64 (lo : Int), .int .i64 (hi : Int)], .one (.int .i64 0)], [], H') := by
  obtain ⟨d, rfl⟩ : ∃ d, D = d + 1 := ⟨D - 1, by omega⟩
  have hN : 5000 < E.N := by decide
  have hL := Eq.refl (f7 (ev E d) E.N (n : Int) (n : Int) (n : Int) (.sl id 0 (n * n) 1) H)
  conv at hL => rhs; unfold f7
  have hm : mkB (n : Int) (n : Int) 8 = true := by
    unfold mkB
    simp only [Bool.and_eq_true, decide_eq_true_eq, and_true]
    omega
  simp only [s_Check (show 1 ≤ d by omega) n n id hn hn, s_MFinite (show 3 ≤ d by omega) hH hu hn hn, ob_some, rI_int, rB_bool, rC_one, rA_agg, rT_tup, tL_cons, tN_nil, cI_cons, cB_cons, cO_cons, cN_nil, bL_cons, bN_nil, optK_some, lenK_sl, lenK_nsl, List.take_length, decide_eq_true hf] at hL
  rw [show ((0 : Int) != 0) = false from rfl, c_f, show ((n : Int) != (n : Int)) = false from by simp, c_f, b_nt, c_f] at hL
  simp only [s_Clone (show 3 ≤ d by omega) hH hn hn, ob_some, rI_int, rB_bool, rC_one, rA_agg, rT_tup, tL_cons, tN_nil, cI_cons, cB_cons, cO_cons, cN_nil, bL_cons, bN_nil, optK_some, lenK_sl, lenK_nsl, List.take_length, hm, c_t, two_dead, Int.toNat_natCast, rep_i64] at hL
  obtain ⟨H1, hH1⟩ : ∃ H1, H1 = H ++ [Blk.mem 2 (u64L (MX n n f))] ++ [Blk.mem 2 (i64V n fun _ => 0), Blk.mem 2 (i64V n fun _ => 0)] := ⟨_, rfl⟩
  have hlen : (H ++ [Blk.mem 2 (u64L (MX n n f))]).length = List.length H + 1 := by simp
  rw [← hH1, hlen] at hL
  have e1 : H1 = H ++ [Blk.mem 2 (u64L (MX n n f)), Blk.mem 2 (i64V n fun _ => 0), Blk.mem 2 (i64V n fun _ => 0)] := by rw [hH1, List.append_assoc]; rfl
  have g0 : HM H1 (List.length H) n n f := by rw [e1]; unfold HM; rw [List.getElem?_append_right (Nat.le_refl _), Nat.sub_self]; rfl
  have g1 : HV H1 (List.length H + 1) n fun _ => 0 := by rw [e1]; unfold HV; rw [List.getElem?_append_right (by omega), show List.length H + 1 - List.length H = 1 from by omega]; rfl
  have g2 : HV H1 (List.length H + 2) n fun _ => 0 := by rw [e1]; unfold HV; rw [List.getElem?_append_right (by omega), show List.length H + 2 - List.length H = 2 from by omega]; rfl
  have go : Old H H1 := by rw [e1]; exact Old.app _ _
  have k0 := fun K0 => l_plc (α := Res) H1 g1 hn (ev E d) E.N (List.length H) K0 (n : Int) (n : Int) (n : Int) (.sl (List.length H) 0 (n * n) 1) (.sl (List.length H + 1 + 1) 0 n 1) n E.N 0 (fun _ => 0) (by omega) (by omega)
  rw [set_same g1] at k0
  rw [show ((0 : Nat) : Int) = 0 from rfl] at k0
  rw [k0] at hL
  simp only [Nat.zero_le, if_true] at hL
  have hS : St H (H1.set (List.length H + 1) (.mem 2 (i64V n fun a => (a : Int)))) n (List.length H) (List.length H + 1) (List.length H + 2) f f (fun a => a) (fun _ => 0) := {
    mat := HM_other g0 (by omega)
    prm := HV_set g1
    pow := HV_other g2 (by omega)
    isp := ⟨fun x h => h, fun x y _ _ h => h⟩
    old := go.set (by omega) _
    u64 := hu }
  obtain ⟨hi, H2, g2', σ2, s2, q2, z2, nr2, e2⟩ := l_rows2 (α := Res) (D := d) (by omega) (by omega) (by omega) (by omega) (by omega) (by omega) hn E.N (List.length H) hN _ n E.N _ f (fun a => a) (by omega) (Nat.le_refl _) hS (fun a b => rfl) ⟨Nat.zero_le _, Nat.le_refl _, fun a b ha h _ => by omega, fun a b _ h => by omega⟩
  rw [show List.length H + 1 + 1 = List.length H + 2 from rfl, e2] at hL
  obtain ⟨lo, H3, g3, σ3, s3, q3, z3, nr3, nc3, e3⟩ := l_cols2 (α := Res) (D := d) (by omega) (by omega) (by omega) (by omega) (by omega) (by omega) hn hi E.N (List.length H) hN _ hi 0 E.N _ g2' σ2 (by have := z2.bd; omega) (by omega) s2 q2 z2 nr2
  rw [show ((0 : Nat) : Int) = 0 from rfl] at e3
  rw [e3] at hL
  have hC : Sc n lo hi f g3 σ3 (fun _ => 0) := {
    scr := fun a b _ _ => by rw [q3 a b]; exact ScR.refl
    wle := fun a _ => by omega
    w0 := fun a _ _ => rfl
    zr := z3
    row := nr3.cut z3
    col := nc3 }
  obtain ⟨H4, g4, w4, s4, c4, e4⟩ := l_lev6 (α := Res) (D := d) (by omega) (by omega) (by omega) (by omega) (by omega) (by omega) hn E.N (List.length H) hN _ 20 E.N 0 true _ _ _ (by omega) (by omega) s3 hC
  rw [show ((0 : Nat) : Int) = 0 from rfl] at e4
  rw [e4] at hL
  exact ⟨lo, hi, H4, g4, σ3, w4, s4, c4, f7_le hL⟩
end Go.Ev.Try
end
